/- Own texts of this claim, joined: W23a, W23b, W23c, W23d. -/
import Derived.Test.YtgipackjnncabaaK16d

/- Walks of layer 23: packets. -/
set_option linter.unusedVariables false
namespace Go.Proofs.Ytgipackjnncabaa
open Go.Vc Go.RowKit

/-- a packet's cells; its data lie at a -/
def Pk.cells (p : Pk) (a : Option Addr) (c : Nat) : List Value := [.int .i64 p.kind, u32v p.ver, .int .i64 p.size, .int .i64 p.chunk, .int .i64 p.state, u32v p.hav, .slice a p.data.length c]
theorem Pk.one (p : Pk) (a : Option Addr) (c : Nat) : ∀ u ∈ p.cells a c, u.oneCell' = true := by simp [Pk.cells, u32v, Value.oneCell']

theorem built112 (k v : Int) : Try.prog.built 112 [(0, .int .i64 k), (1, .int .u32 v)] = some #[.int .i64 k, .int .u32 v, .int .i64 0, .int .i64 0, .int .i64 0, .int .u32 0, .slice none 0 0] := by kernel_rfl

/-- is there such a packet? -/
theorem right_calls {w : World} (p : Pk) (a : Option Addr) (c : Nat) : Calls Try.prog 159 #[.agg (p.cells a c).toArray] w (Ret fun v w' => v = .bool (canP p) ∧ Ext w w') := by
  refine calls_of_vc lok Try.func159 ?_ rfl
  conv => whnf
  intro w1 hw1
  have hb1 : Blk w1 w.heap.size 112 (p.cells a c) := by rw [hw1]; exact Blk.new w 112 _
  have x1 : Ext w w1 := by rw [hw1]; exact Ext.new _ _
  clear hw1
  conv => whnf
  refine ⟨_, hb1.cell0 rfl, ?_⟩
  conv => whnf
  refine ⟨_, hb1.cell (i := 1) rfl, ?_⟩
  conv => whnf
  refine ⟨_, fun w => run_build w 112 _ _ (built112 p.kind p.ver.toNat), ?_⟩
  conv => whnf
  intro w2 hw2
  have hb2 : Blk w2 w1.heap.size 112 [.int .i64 0, .int .u32 0, .int .i64 0, .int .i64 0, .int .i64 0, .int .u32 0, .slice none 0 0] := by rw [hw2]; exact Blk.new w1 112 _
  have x2 : Ext w1 w2 := by rw [hw2]; exact Ext.new _ _
  clear hw2
  conv => whnf
  have k3 := Blk.storeAgg lok hb2 (t := 112) (us := (⟨p.kind, p.ver, 0, 0, 0, 0#32, []⟩ : Pk).cells none 0) rfl 0 (Nat.le_refl 7) (Pk.one _ _ _)
  obtain ⟨w3, hr3, hb3, hg3⟩ := k3
  have hb3 : Blk w3 w1.heap.size 112 ((⟨p.kind, p.ver, 0, 0, 0, 0#32, []⟩ : Pk).cells none 0) := hb3
  have x3 : Ext w1 w3 := hg3.extOf x2 (fun g hg => by cases hg; exact Nat.le_refl _)
  refine ⟨w3, hr3, ?_⟩
  have hb13 := hb1.ext x3
  have z1 := hb1.lt
  generalize hbq : w1.heap.size = bq at *
  generalize hbp : w.heap.size = bp at *
  conv => whnf
  refine ⟨_, hb13.cell0 rfl, ?_⟩
  conv => whnf
  have hE : Ext w w3 := x1.trans x3
  clear hr3 x3 hg3
  refine vcCond_meet (fun t : Bool × Pk => [(4, .bool t.1), (1, .pointer (some ⟨bp, 0, none⟩)), (3, .pointer (some ⟨bq, 0, none⟩))])
    (fun t w' => Blk w' bp 112 (p.cells a c) ∧ Blk w' bq 112 (t.2.cells none 0) ∧ Ext w w' ∧ (canP p = true ↔ t.1 = true ∧ t.2.size = p.size ∧ t.2.chunk = p.chunk ∧ t.2.state = p.state ∧ t.2.hav = p.hav)) ?_ ?_
  · refine vcCond_split lok rfl (fun k1 => ?_) (fun k1 => ?_)
    · have k1 := dt k1
      conv => whnf
      refine ⟨_, hb13.cell (i := 2) rfl, ?_⟩
      conv => whnf
      refine ⟨hb3.can 2 (by simp [Pk.cells]) _ rfl, fun w4 hw4 => ?_⟩
      have hb4 : Blk w4 bq 112 ((⟨p.kind, p.ver, p.size, 0, 0, 0#32, []⟩ : Pk).cells none 0) := by rw [hw4]; exact hb3.set 2 _
      have hg4 := gr_of_set hw4
      have hb14 : Blk w4 bp 112 (p.cells a c) := hb13.keep (hg4.block bp hb13.lt (fun e => by cases e; omega))
      have x4 : Ext w w4 := hg4.extOf hE (fun g hg => by cases hg; omega)
      clear hw4
      conv => whnf
      refine vcReg_meet lok (fun β : Bool => [(4, .bool β)]) (fun β w' => w' = w4 ∧ β = decide ((1 ≤ p.size ∧ p.size ≤ 2048) ∧ p.data.length = 0)) [4] (fun _ => rfl) rfl ?_ ?_
      · conv => whnf
        refine ⟨_, hb14.cell (i := 2) rfl, ?_⟩
        conv => whnf
        refine bcase (fun h2 => ?_) (fun h2 => ?_)
        · have h2 := dt h2
          conv => whnf
          refine ⟨_, hb14.cell (i := 2) rfl, ?_⟩
          conv => whnf
          refine bcase (fun h3 => ?_) (fun h3 => ?_)
          · have h3 := dt h3
            conv => whnf
            refine ⟨_, hb14.cell (i := 6) rfl, ?_⟩
            conv => whnf
            exact ⟨_, ⟨rfl, trivial⟩, rfl, by rw [decide_eq_decide]; omega⟩
          · have h3 := df h3
            conv => whnf
            exact ⟨_, ⟨rfl, trivial⟩, rfl, by rw [eq_comm, decide_eq_false_iff_not]; omega⟩
        · have h2 := df h2
          conv => whnf
          exact ⟨_, ⟨rfl, trivial⟩, rfl, by rw [eq_comm, decide_eq_false_iff_not]; omega⟩
      rintro β w5 ⟨hw5, hβ⟩
      subst hw5
      conv => whnf
      refine ⟨(β, ⟨p.kind, p.ver, p.size, 0, 0, 0#32, []⟩), ⟨rfl, rfl, rfl, trivial⟩, hb14, hb4, x4, ?_⟩
      rw [hβ]
      unfold canP
      rw [decide_eq_true_iff, decide_eq_true_iff]
      constructor
      · rintro (⟨_, h1, h2, h3, h4, h5⟩ | ⟨h1, _⟩ | ⟨h1, _⟩)
        · exact ⟨⟨h1, h5⟩, rfl, h2.symm, h3.symm, h4.symm⟩
        · omega
        · omega
      · rintro ⟨⟨h1, h5⟩, _, h2, h3, h4⟩
        exact .inl ⟨k1, h1, h2.symm, h3.symm, h4.symm, h5⟩
    · have k1 := df k1
      conv => whnf
      refine vcCond_split lok rfl (fun k2 => ?_) (fun k2 => ?_)
      · have k2 := dt k2
        conv => whnf
        refine ⟨_, hb13.cell (i := 3) rfl, ?_⟩
        conv => whnf
        refine ⟨hb3.can 3 (by simp [Pk.cells]) _ rfl, fun w4 hw4 => ?_⟩
        have hb4 : Blk w4 bq 112 ((⟨p.kind, p.ver, 0, p.chunk, 0, 0#32, []⟩ : Pk).cells none 0) := by rw [hw4]; exact hb3.set 3 _
        have hg4 := gr_of_set hw4
        have hb14 : Blk w4 bp 112 (p.cells a c) := hb13.keep (hg4.block bp hb13.lt (fun e => by cases e; omega))
        have x4 : Ext w w4 := hg4.extOf hE (fun g hg => by cases hg; omega)
        clear hw4
        conv => whnf
        refine vcReg_meet lok (fun β : Bool => [(4, .bool β)]) (fun β w' => w' = w4 ∧ β = decide ((0 ≤ p.chunk ∧ p.chunk ≤ 31) ∧ (1 ≤ p.data.length ∧ p.data.length ≤ 64))) [4] (fun _ => rfl) rfl ?_ ?_
        · conv => whnf
          refine ⟨_, hb14.cell (i := 3) rfl, ?_⟩
          conv => whnf
          refine bcase (fun h2 => ?_) (fun h2 => ?_)
          · have h2 := dt h2
            conv => whnf
            refine ⟨_, hb14.cell (i := 3) rfl, ?_⟩
            conv => whnf
            refine bcase (fun h3 => ?_) (fun h3 => ?_)
            · have h3 := dt h3
              conv => whnf
              refine ⟨_, hb14.cell (i := 6) rfl, ?_⟩
              conv => whnf
              refine bcase (fun h4 => ?_) (fun h4 => ?_)
              · have h4 := dt h4
                conv => whnf
                refine ⟨_, hb14.cell (i := 6) rfl, ?_⟩
                conv => whnf
                exact ⟨_, ⟨rfl, trivial⟩, rfl, by rw [decide_eq_decide]; omega⟩
              · have h4 := df h4
                conv => whnf
                exact ⟨_, ⟨rfl, trivial⟩, rfl, by rw [eq_comm, decide_eq_false_iff_not]; omega⟩
            · have h3 := df h3
              conv => whnf
              exact ⟨_, ⟨rfl, trivial⟩, rfl, by rw [eq_comm, decide_eq_false_iff_not]; omega⟩
          · have h2 := df h2
            conv => whnf
            exact ⟨_, ⟨rfl, trivial⟩, rfl, by rw [eq_comm, decide_eq_false_iff_not]; omega⟩
        rintro β w5 ⟨hw5, hβ⟩
        subst hw5
        conv => whnf
        refine ⟨(β, ⟨p.kind, p.ver, 0, p.chunk, 0, 0#32, []⟩), ⟨rfl, rfl, rfl, trivial⟩, hb14, hb4, x4, ?_⟩
        rw [hβ]
        unfold canP
        rw [decide_eq_true_iff, decide_eq_true_iff]
        constructor
        · rintro (⟨h1, _⟩ | ⟨_, h1, h2, h3, h4, h5⟩ | ⟨h1, _⟩)
          · omega
          · exact ⟨⟨h2, h5⟩, h1.symm, rfl, h3.symm, h4.symm⟩
          · omega
        · rintro ⟨⟨h2, h5⟩, h1, _, h3, h4⟩
          exact .inr (.inl ⟨k2, h1.symm, h2, h3.symm, h4.symm, h5⟩)
      · have k2 := df k2
        conv => whnf
        refine vcCond_split lok rfl (fun k3 => ?_) (fun k3 => ?_)
        · have k3 := dt k3
          conv => whnf
          refine vcDraw_meet lok mixed (fun w' => Blk w' bp 112 (p.cells a c)) [5] [0, 1, 2, 3, 4, 5, 6, 7]
            (fun _ : Unit => []) (fun _ w' => Blk w' bp 112 (p.cells a c) ∧ Blk w' bq 112 ((⟨p.kind, p.ver, 0, 0, p.state, p.hav, []⟩ : Pk).cells none 0) ∧ Ext w w') [] (fun _ => rfl) rfl (by kernel_rfl) (fun w4 hw4 => ⟨hb13.ext (hw4 ▸ Ext.drew w3), ?_⟩) ?_
          · have x4 : Ext w3 w4 := hw4 ▸ Ext.drew w3
            have hb34 := hb3.ext x4
            have hb14 := hb13.ext x4
            conv => whnf
            refine ⟨_, fun w' hw' => hw'.cell (i := 5) rfl, ?_⟩
            conv => whnf
            refine ⟨_, fun w' hw' => hw'.cell (i := 4) rfl, ?_⟩
            conv => whnf
            refine ⟨hb34.can 5 (by simp [Pk.cells]) _ rfl, fun w5 hw5 => ?_⟩
            have hb5 : Blk w5 bq 112 ((⟨p.kind, p.ver, 0, 0, 0, p.hav, []⟩ : Pk).cells none 0) := by rw [hw5]; exact hb34.set 5 _
            have hg5 := gr_of_set hw5
            have hb15 : Blk w5 bp 112 (p.cells a c) := hb14.keep (hg5.block bp hb14.lt (fun e => by cases e; omega))
            have x5 : Ext w w5 := hg5.extOf (hE.trans x4) (fun g hg => by cases hg; omega)
            clear hw5
            refine ⟨_, fun _ h => h, hb15, ?_⟩
            conv => whnf
            refine ⟨hb5.can 4 (by simp [Pk.cells]) _ rfl, fun w6 hw6 => ?_⟩
            have hb6 : Blk w6 bq 112 ((⟨p.kind, p.ver, 0, 0, p.state, p.hav, []⟩ : Pk).cells none 0) := by rw [hw6]; exact hb5.set 4 _
            have hg6 := gr_of_set hw6
            exact ⟨(), trivial, hb15.keep (hg6.block bp hb15.lt (fun e => by cases e; omega)), hb6, hg6.extOf x5 (fun g hg => by cases hg; omega)⟩
          rintro _ w4 ⟨hb14, hb4, x4⟩
          conv => whnf
          refine vcReg_meet lok (fun β : Bool => [(4, .bool β)]) (fun β w' => w' = w4 ∧ β = decide ((0 ≤ p.state ∧ p.state ≤ 2) ∧ p.data.length = 0)) [4] (fun _ => rfl) rfl ?_ ?_
          · conv => whnf
            refine ⟨_, hb14.cell (i := 4) rfl, ?_⟩
            conv => whnf
            refine bcase (fun h2 => ?_) (fun h2 => ?_)
            · have h2 := dt h2
              conv => whnf
              refine ⟨_, hb14.cell (i := 4) rfl, ?_⟩
              conv => whnf
              refine bcase (fun h3 => ?_) (fun h3 => ?_)
              · have h3 := dt h3
                conv => whnf
                refine ⟨_, hb14.cell (i := 6) rfl, ?_⟩
                conv => whnf
                exact ⟨_, ⟨rfl, trivial⟩, rfl, by rw [decide_eq_decide]; omega⟩
              · have h3 := df h3
                conv => whnf
                exact ⟨_, ⟨rfl, trivial⟩, rfl, by rw [eq_comm, decide_eq_false_iff_not]; omega⟩
            · have h2 := df h2
              conv => whnf
              exact ⟨_, ⟨rfl, trivial⟩, rfl, by rw [eq_comm, decide_eq_false_iff_not]; omega⟩
          rintro β w5 ⟨hw5, hβ⟩
          subst hw5
          conv => whnf
          refine ⟨(β, ⟨p.kind, p.ver, 0, 0, p.state, p.hav, []⟩), ⟨rfl, rfl, rfl, trivial⟩, hb14, hb4, x4, ?_⟩
          rw [hβ]
          unfold canP
          rw [decide_eq_true_iff, decide_eq_true_iff]
          constructor
          · rintro (⟨h1, _⟩ | ⟨h1, _⟩ | ⟨_, h1, h2, h3, h4⟩)
            · omega
            · omega
            · exact ⟨⟨h3, h4⟩, h1.symm, h2.symm, rfl, rfl⟩
          · rintro ⟨⟨h3, h4⟩, h1, h2, _, _⟩
            exact .inr (.inr ⟨k3, h1.symm, h2.symm, h3, h4⟩)
        · have k3 := df k3
          conv => whnf
          refine ⟨(false, ⟨p.kind, p.ver, 0, 0, 0, 0#32, []⟩), ⟨rfl, rfl, rfl, trivial⟩, hb13, hb3, hE, ?_⟩
          unfold canP
          simp only [decide_eq_true_eq]
          constructor
          · rintro (⟨h1, _⟩ | ⟨h1, _⟩ | ⟨h1, _⟩) <;> omega
          · rintro ⟨h1, _⟩; cases h1
  rintro ⟨ok, q⟩ w4 ⟨hb14, hb4, x4, hiff⟩
  conv => whnf
  refine vcReg_meet lok (fun β : Bool => [(2, .bool β)]) (fun β w' => w' = w4 ∧ β = canP p) [2] (fun _ => rfl) rfl ?_ ?_
  · have no : ∀ {P : Prop}, ¬ (ok = true ∧ q.size = p.size ∧ q.chunk = p.chunk ∧ q.state = p.state ∧ q.hav = p.hav) → false = canP p := fun h => by
      cases hc : canP p with
      | false => rfl
      | true => exact absurd (hiff.1 hc) h
    conv => whnf
    refine bcase (fun h1 => ?_) (fun h1 => ?_)
    rotate_left
    · subst h1
      conv => whnf
      exact ⟨_, ⟨rfl, trivial⟩, rfl, no (P := True) (fun h => by cases h.1)⟩
    subst h1
    conv => whnf
    refine ⟨_, hb4.cell (i := 2) rfl, ?_⟩
    conv => whnf
    refine ⟨_, hb14.cell (i := 2) rfl, ?_⟩
    conv => whnf
    refine bcase (fun h2 => ?_) (fun h2 => ?_)
    rotate_left
    · have h2 := df h2
      conv => whnf
      exact ⟨_, ⟨rfl, trivial⟩, rfl, no (P := True) (fun h => h2 h.2.1)⟩
    have h2 := dt h2
    conv => whnf
    refine ⟨_, hb4.cell (i := 3) rfl, ?_⟩
    conv => whnf
    refine ⟨_, hb14.cell (i := 3) rfl, ?_⟩
    conv => whnf
    refine bcase (fun h3 => ?_) (fun h3 => ?_)
    rotate_left
    · have h3 := df h3
      conv => whnf
      exact ⟨_, ⟨rfl, trivial⟩, rfl, no (P := True) (fun h => h3 h.2.2.1)⟩
    have h3 := dt h3
    conv => whnf
    refine ⟨_, hb4.cell (i := 4) rfl, ?_⟩
    conv => whnf
    refine ⟨_, hb14.cell (i := 4) rfl, ?_⟩
    conv => whnf
    refine bcase (fun h4 => ?_) (fun h4 => ?_)
    rotate_left
    · have h4 := df h4
      conv => whnf
      exact ⟨_, ⟨rfl, trivial⟩, rfl, no (P := True) (fun h => h4 h.2.2.2.1)⟩
    have h4 := dt h4
    conv => whnf
    refine ⟨_, hb4.cell (i := 5) rfl, ?_⟩
    conv => whnf
    refine ⟨_, hb14.cell (i := 5) rfl, ?_⟩
    conv => whnf
    refine ⟨_, ⟨rfl, trivial⟩, rfl, ?_⟩
    by_cases h5 : q.hav = p.hav
    · rw [hiff.2 ⟨rfl, h2, h3, h4, h5⟩, decide_eq_true (int_eq.2 h5)]
    · rw [decide_eq_false (fun h => h5 (int_eq.1 h))]
      exact no (P := True) (fun h => h5 h.2.2.2.2)
  rintro β w5 ⟨hw5, hβ⟩
  subst hw5
  conv => whnf
  exact ⟨by rw [hβ], x4⟩

/-- the reference's -/
theorem can_calls {w : World} (p : Pk) (a : Option Addr) (c : Nat) : Calls Try.prog 161 #[.agg (p.cells a c).toArray] w (Ret fun v w' => v = .bool (canP p) ∧ Ext w w') := by
  refine calls_of_vc lok Try.func161 ?_ rfl
  conv => whnf
  intro w1 hw1
  have hb1 : Blk w1 w.heap.size 70 (p.cells a c) := by rw [hw1]; exact Blk.new w 70 _
  have x1 : Ext w w1 := by rw [hw1]; exact Ext.new _ _
  clear hw1
  have hci : canP p = decide ((p.kind = 1 ∧ (1 ≤ p.size ∧ p.size ≤ 2048) ∧ p.chunk = 0 ∧ p.state = 0 ∧ p.hav = 0#32 ∧ p.data.length = 0) ∨
    (p.kind = 2 ∧ p.size = 0 ∧ (0 ≤ p.chunk ∧ p.chunk ≤ 31) ∧ p.state = 0 ∧ p.hav = 0#32 ∧ (1 ≤ p.data.length ∧ p.data.length ≤ 64)) ∨
    (p.kind = 3 ∧ p.size = 0 ∧ p.chunk = 0 ∧ (0 ≤ p.state ∧ p.state ≤ 2) ∧ p.data.length = 0)) := rfl
  have h0 : ((p.hav.toNat : Int) = 0) ↔ p.hav = 0#32 := int_eq (x := p.hav) (y := 0#32)
  conv => whnf
  refine ⟨_, hb1.cell0 rfl, ?_⟩
  conv => whnf
  refine vcCond_split lok rfl (fun k1 => ?_) (fun k1 => ?_)
  · have k1 := dt k1
    conv => whnf
    refine vcReg_meet lok (fun β : Bool => [(2, .bool β)]) (fun β w' => w' = w1 ∧ β = canP p) [2] (fun _ => rfl) rfl ?_ ?_
    · conv => whnf
      refine ⟨_, hb1.cell (i := 2) rfl, ?_⟩
      conv => whnf
      refine bcase (fun h2 => ?_) (fun h2 => ?_)
      rotate_left
      · have h2 := df h2
        conv => whnf
        exact ⟨_, ⟨rfl, trivial⟩, rfl, by rw [hci, eq_comm, decide_eq_false_iff_not]; omega⟩
      have h2 := dt h2
      conv => whnf
      refine ⟨_, hb1.cell (i := 2) rfl, ?_⟩
      conv => whnf
      refine bcase (fun h3 => ?_) (fun h3 => ?_)
      rotate_left
      · have h3 := df h3
        conv => whnf
        exact ⟨_, ⟨rfl, trivial⟩, rfl, by rw [hci, eq_comm, decide_eq_false_iff_not]; omega⟩
      have h3 := dt h3
      conv => whnf
      refine ⟨_, hb1.cell (i := 3) rfl, ?_⟩
      conv => whnf
      refine bcase (fun h4 => ?_) (fun h4 => ?_)
      rotate_left
      · have h4 := df h4
        conv => whnf
        exact ⟨_, ⟨rfl, trivial⟩, rfl, by rw [hci, eq_comm, decide_eq_false_iff_not]; omega⟩
      have h4 := dt h4
      conv => whnf
      refine ⟨_, hb1.cell (i := 4) rfl, ?_⟩
      conv => whnf
      refine bcase (fun h5 => ?_) (fun h5 => ?_)
      rotate_left
      · have h5 := df h5
        conv => whnf
        exact ⟨_, ⟨rfl, trivial⟩, rfl, by rw [hci, eq_comm, decide_eq_false_iff_not]; omega⟩
      have h5 := dt h5
      conv => whnf
      refine ⟨_, hb1.cell (i := 5) rfl, ?_⟩
      conv => whnf
      refine bcase (fun h6 => ?_) (fun h6 => ?_)
      rotate_left
      · have h6 := fun e => df h6 (h0.2 e)
        conv => whnf
        exact ⟨_, ⟨rfl, trivial⟩, rfl, by rw [hci, eq_comm, decide_eq_false_iff_not]; rintro (⟨_, _, _, _, h, _⟩ | ⟨h, _⟩ | ⟨h, _⟩); exact h6 h; omega; omega⟩
      have h6 := h0.1 (dt h6)
      conv => whnf
      refine ⟨_, hb1.cell (i := 6) rfl, ?_⟩
      conv => whnf
      refine ⟨_, ⟨rfl, trivial⟩, rfl, ?_⟩
      rw [hci, decide_eq_decide]
      constructor
      · intro h7; exact .inl ⟨k1, ⟨h2, h3⟩, h4, h5, h6, by omega⟩
      · rintro (⟨_, _, _, _, _, h⟩ | ⟨h, _⟩ | ⟨h, _⟩) <;> omega
    rintro β w5 ⟨hw5, hβ⟩
    subst hw5
    conv => whnf
    exact ⟨by rw [hβ], x1⟩
  · have k1 := df k1
    conv => whnf
    refine vcCond_split lok rfl (fun k2 => ?_) (fun k2 => ?_)
    · have k2 := dt k2
      conv => whnf
      refine vcReg_meet lok (fun β : Bool => [(2, .bool β)]) (fun β w' => w' = w1 ∧ β = canP p) [2] (fun _ => rfl) rfl ?_ ?_
      · conv => whnf
        refine ⟨_, hb1.cell (i := 2) rfl, ?_⟩
        conv => whnf
        refine bcase (fun h2 => ?_) (fun h2 => ?_)
        rotate_left
        · have h2 := df h2
          conv => whnf
          exact ⟨_, ⟨rfl, trivial⟩, rfl, by rw [hci, eq_comm, decide_eq_false_iff_not]; omega⟩
        have h2 := dt h2
        conv => whnf
        refine ⟨_, hb1.cell (i := 3) rfl, ?_⟩
        conv => whnf
        refine bcase (fun h3 => ?_) (fun h3 => ?_)
        rotate_left
        · have h3 := df h3
          conv => whnf
          exact ⟨_, ⟨rfl, trivial⟩, rfl, by rw [hci, eq_comm, decide_eq_false_iff_not]; omega⟩
        have h3 := dt h3
        conv => whnf
        refine ⟨_, hb1.cell (i := 3) rfl, ?_⟩
        conv => whnf
        refine bcase (fun h4 => ?_) (fun h4 => ?_)
        rotate_left
        · have h4 := df h4
          conv => whnf
          exact ⟨_, ⟨rfl, trivial⟩, rfl, by rw [hci, eq_comm, decide_eq_false_iff_not]; omega⟩
        have h4 := dt h4
        conv => whnf
        refine ⟨_, hb1.cell (i := 4) rfl, ?_⟩
        conv => whnf
        refine bcase (fun h5 => ?_) (fun h5 => ?_)
        rotate_left
        · have h5 := df h5
          conv => whnf
          exact ⟨_, ⟨rfl, trivial⟩, rfl, by rw [hci, eq_comm, decide_eq_false_iff_not]; omega⟩
        have h5 := dt h5
        conv => whnf
        refine ⟨_, hb1.cell (i := 5) rfl, ?_⟩
        conv => whnf
        refine bcase (fun h6 => ?_) (fun h6 => ?_)
        rotate_left
        · have h6 := fun e => df h6 (h0.2 e)
          conv => whnf
          exact ⟨_, ⟨rfl, trivial⟩, rfl, by rw [hci, eq_comm, decide_eq_false_iff_not]; rintro (⟨h, _⟩ | ⟨_, _, _, _, h, _⟩ | ⟨h, _⟩); omega; exact h6 h; omega⟩
        have h6 := h0.1 (dt h6)
        conv => whnf
        refine ⟨_, hb1.cell (i := 6) rfl, ?_⟩
        conv => whnf
        refine bcase (fun h7 => ?_) (fun h7 => ?_)
        rotate_left
        · have h7 := df h7
          conv => whnf
          exact ⟨_, ⟨rfl, trivial⟩, rfl, by rw [hci, eq_comm, decide_eq_false_iff_not]; omega⟩
        have h7 := dt h7
        conv => whnf
        refine ⟨_, hb1.cell (i := 6) rfl, ?_⟩
        conv => whnf
        refine ⟨_, ⟨rfl, trivial⟩, rfl, ?_⟩
        rw [hci, decide_eq_decide]
        constructor
        · intro h8; exact .inr (.inl ⟨k2, h2, ⟨h3, h4⟩, h5, h6, by omega, by omega⟩)
        · rintro (⟨h, _⟩ | ⟨_, _, _, _, _, h⟩ | ⟨h, _⟩) <;> omega
      rintro β w5 ⟨hw5, hβ⟩
      subst hw5
      conv => whnf
      exact ⟨by rw [hβ], x1⟩
    · have k2 := df k2
      conv => whnf
      refine vcCond_split lok rfl (fun k3 => ?_) (fun k3 => ?_)
      · have k3 := dt k3
        conv => whnf
        refine vcReg_meet lok (fun β : Bool => [(2, .bool β)]) (fun β w' => w' = w1 ∧ β = canP p) [2] (fun _ => rfl) rfl ?_ ?_
        · conv => whnf
          refine ⟨_, hb1.cell (i := 2) rfl, ?_⟩
          conv => whnf
          refine bcase (fun h2 => ?_) (fun h2 => ?_)
          rotate_left
          · have h2 := df h2
            conv => whnf
            exact ⟨_, ⟨rfl, trivial⟩, rfl, by rw [hci, eq_comm, decide_eq_false_iff_not]; omega⟩
          have h2 := dt h2
          conv => whnf
          refine ⟨_, hb1.cell (i := 3) rfl, ?_⟩
          conv => whnf
          refine bcase (fun h3 => ?_) (fun h3 => ?_)
          rotate_left
          · have h3 := df h3
            conv => whnf
            exact ⟨_, ⟨rfl, trivial⟩, rfl, by rw [hci, eq_comm, decide_eq_false_iff_not]; omega⟩
          have h3 := dt h3
          conv => whnf
          refine ⟨_, hb1.cell (i := 4) rfl, ?_⟩
          conv => whnf
          refine bcase (fun h4 => ?_) (fun h4 => ?_)
          rotate_left
          · have h4 := df h4
            conv => whnf
            exact ⟨_, ⟨rfl, trivial⟩, rfl, by rw [hci, eq_comm, decide_eq_false_iff_not]; omega⟩
          have h4 := dt h4
          conv => whnf
          refine ⟨_, hb1.cell (i := 4) rfl, ?_⟩
          conv => whnf
          refine bcase (fun h5 => ?_) (fun h5 => ?_)
          rotate_left
          · have h5 := df h5
            conv => whnf
            exact ⟨_, ⟨rfl, trivial⟩, rfl, by rw [hci, eq_comm, decide_eq_false_iff_not]; omega⟩
          have h5 := dt h5
          conv => whnf
          refine ⟨_, hb1.cell (i := 6) rfl, ?_⟩
          conv => whnf
          refine ⟨_, ⟨rfl, trivial⟩, rfl, ?_⟩
          rw [hci, decide_eq_decide]
          constructor
          · intro h8; exact .inr (.inr ⟨k3, h2, h3, ⟨h4, h5⟩, by omega⟩)
          · rintro (⟨h, _⟩ | ⟨h, _⟩ | ⟨_, _, _, _, h⟩) <;> omega
        rintro β w5 ⟨hw5, hβ⟩
        subst hw5
        conv => whnf
        exact ⟨by rw [hβ], x1⟩
      · have k3 := df k3
        conv => whnf
        exact ⟨by rw [hci, decide_eq_false (by omega)], x1⟩
end Go.Proofs.Ytgipackjnncabaa

/- Walks of layer 23, second part: packets packed. -/
set_option linter.unusedVariables false
namespace Go.Proofs.Ytgipackjnncabaa
open Go.Vc Go.RowKit

/-- a box that holds a slice of bytes of the call's own -/
def BoxAt (w : World) (bx B : Nat) (l : List (BitVec 8)) : Prop := ∃ a c, Blk w bx 22 [.slice a l.length c] ∧ Own 5 u8v B w a c l ∧ blockOf a ≠ some bx ∧ B ≤ bx

theorem put_ok {b : List (BitVec 8)} {k n : Nat} (h1 : 1 ≤ k) (h2 : k ≤ 8) (hn : n < 256 ^ k) : putF b k n = (b ++ enc k n, 0) := by
  unfold putF
  rw [if_neg (by omega), if_neg (by rw [Int.toNat_natCast]; omega), Int.toNat_natCast]

/-- the inner function of Pack -/
theorem putc_calls {w : World} {bx B : Nat} {l : List (BitVec 8)} (h : BoxAt w bx B l) (hl : l.length ≤ 16777216) (k n : Nat) (h1 : 1 ≤ k) (h2 : k ≤ 8) (hn : n < 256 ^ k) :
    Calls Try.prog 160 #[.int .i64 k, .int .u64 n, .pointer (some ⟨bx, 0, none⟩)] w (Ret fun v w' => v = .tuple #[] ∧ BoxAt w' bx B (l ++ enc k n) ∧ Gr w w' (some bx)) := by
  obtain ⟨a, c, hb, ho, hne, hB⟩ := h
  have hn64 : n < 2 ^ 64 := Nat.lt_of_lt_of_le hn (Nat.pow_le_pow_right (n := 256) (by decide) h2)
  refine calls_of_vc lok Try.func160 ?_ rfl
  conv => whnf
  refine ⟨_, hb.cell0 rfl, ?_⟩
  conv => whnf
  have gq := put_calls (c := c) ho.sl hl k n hn64
  rw [put_ok h1 h2 hn] at gq
  refine Calls.ret (gq) ?_
  rintro _ w1 ⟨a1, c1, rfl, ho1, x1⟩
  conv => whnf
  have hb1 := hb.ext x1
  refine ⟨hb1.can 0 (by simp) _ rfl, fun w2 hw2 => ?_⟩
  have hb2 : Blk w2 bx 22 [.slice a1 (l ++ enc k n).length c1] := by rw [hw2]; exact hb1.set 0 _
  have g2 := gr_of_set hw2
  have hlt := hb.lt
  have ho2 : Own 5 u8v w.heap.size w2 a1 c1 (l ++ enc k n) := g2.keepOwn ho1 (fun g hg e => by cases e; have := (ho1.ge _ hg).1; omega)
  exact ⟨rfl, ⟨a1, c1, hb2, ho2.base (by omega), fun e => by have := (ho1.ge bx e).1; omega, hB⟩, (Gr.ofExt x1 _).step g2 (.inl rfl)⟩

theorem wu64n {n : Nat} (h : n < 18446744073709551616) : IntKind.u64.wrap (n : Int) = (n : Int) := by rw [wu64]; omega

/-- Pack -/
theorem pack_calls {w : World} (p : Pk) {a : Option Addr} {c : Nat} (hd : Sl u8v w a p.data) :
    Calls Try.prog 104 #[.agg (p.cells a c).toArray] w (Ret (PutPost (packF p) w)) := by
  refine calls_of_vc lok Try.func104 ?_ rfl
  conv => whnf
  intro w1 hw1
  have hb1 : Blk w1 w.heap.size 112 (p.cells a c) := by rw [hw1]; exact Blk.new w 112 _
  have x1 : Ext w w1 := by rw [hw1]; exact Ext.new _ _
  clear hw1
  conv => whnf
  refine ⟨p.cells a c, rfl, hb1.cells, ?_⟩
  conv => whnf
  refine Calls.ret (right_calls p a c) ?_
  rintro _ w2 ⟨rfl, x2⟩
  conv => whnf
  cases hc : canP p with
  | false =>
    have e : packF p = ([], 1) := if_neg (by rw [hc]; decide)
    rw [e]
    conv => whnf
    refine vcCond_true lok (rfl) ?_
    conv => whnf
    exact ⟨none, 0, rfl, Own.nil _ _ _ _, x1.trans x2⟩
  | true =>
    have e : packF p = (sealF (bodyF p), 0) := if_pos hc
    rw [e]
    conv => whnf
    refine vcCond_false lok (rfl) ?_
    conv => whnf
    have hb2 := hb1.ext x2
    have hlt := hb2.lt
    intro w3 hw3
    have hb3 : Blk w3 w2.heap.size 22 [.slice none 0 0] := by rw [hw3]; exact Blk.new w2 22 _
    have x3 : Ext w2 w3 := by rw [hw3]; exact Ext.new _ _
    clear hw3
    have x03 := (x1.trans x2).trans x3
    have z1 := x1.size
    have z2 := x2.size
    have hbp3 := hb2.ext x3
    have hd3 := hd.ext x03
    have bx0 : BoxAt w3 w2.heap.size w2.heap.size [] := ⟨none, 0, hb3, Own.nil _ _ _ _, (fun e => by cases e), Nat.le_refl _⟩
    generalize hbx : w2.heap.size = bx at *
    generalize hbp : w.heap.size = bp at *
    have keep : ∀ {u u' : World}, Gr u u' (some bx) → Blk u bp 112 (p.cells a c) → Blk u' bp 112 (p.cells a c) := fun g hb => hb.keep (g.block bp hb.lt (fun e => by cases e; omega))
    have vlt := p.ver.isLt
    have hvl := p.hav.isLt
    conv => whnf
    refine ⟨_, hbp3.cell0 rfl, ?_⟩
    conv => whnf
    have hcc := canP_cases hc
    rcases hcc with ⟨hp, n, hn, hn1, hn2⟩ | ⟨hp, ⟨n, hn, hn2⟩, hd1, hd2⟩ | ⟨hp, n, hn, hn2⟩
    · have hk : p.kind = 1 := by rw [hp]
      rw [hk]
      intro z hz
      have hz14 : z = ((1 : Nat) : Int) := by rw [hz, wu64]; rfl
      clear hz
      subst hz14
      conv => whnf
      refine Calls.ret (putc_calls bx0 (by decide) 1 1 (by decide) (by decide) (by decide)) ?_
      rintro _ w4 ⟨rfl, bx4, g4⟩
      conv => whnf
      have hbp4 := keep g4 hbp3
      refine ⟨_, hbp4.cell (i := 1) rfl, ?_⟩
      conv => whnf
      intro z hz
      replace hz := hz.trans (wu64n (n := p.ver.toNat) (by omega))
      subst hz
      conv => whnf
      refine Calls.ret (putc_calls bx4 (by simp [enc_len]) 4 p.ver.toNat (by decide) (by decide) (ver_lt _)) ?_
      rintro _ w5 ⟨rfl, bx5, g5⟩
      conv => whnf
      have hbp5 := keep g5 hbp4
      refine ⟨_, hbp5.cell0 rfl, ?_⟩
      rw [hk]
      conv => whnf
      refine vcCond_true lok (rfl) ?_
      conv => whnf
      refine ⟨_, hbp5.cell (i := 2) rfl, ?_⟩
      rw [hn]
      conv => whnf
      intro z hz
      replace hz := hz.trans (wu64n (n := n) (by omega))
      subst hz
      conv => whnf
      refine Calls.ret (putc_calls bx5 (by simp [enc_len]) 2 n (by decide) (by decide) (by show n < 65536; omega)) ?_
      rintro _ w6 ⟨rfl, bx6, g6⟩
      conv => whnf
      have g36 : Gr w3 w6 (some bx) := (g4.step g5 (.inl rfl)).step g6 (.inl rfl)
      have x6 : Ext w w6 := g36.extOf x03 (fun g hg => by cases hg; omega)
      obtain ⟨a6, c6, hb6, ho6, _, _⟩ := bx6
      refine ⟨_, hb6.cell0 rfl, ?_⟩
      conv => whnf
      refine Calls.ret (seal_calls ho6.sl (by simp [enc_len])) ?_
      rintro _ w7 ⟨a7, c7, rfl, ho7, x7⟩
      conv => whnf
      have eb : [] ++ enc 1 1 ++ enc 4 p.ver.toNat ++ enc 2 n = bodyF p := by rw [hp, hn]; simp [bodyF]
      rw [eb] at ho7 ⊢
      exact ⟨a7, c7, rfl, ho7.base x6.size, x6.trans x7⟩
    · have hk : p.kind = 2 := by rw [hp]
      rw [hk]
      intro z hz
      have hz26 : z = ((2 : Nat) : Int) := by rw [hz, wu64]; rfl
      clear hz
      subst hz26
      conv => whnf
      refine Calls.ret (putc_calls bx0 (by decide) 1 2 (by decide) (by decide) (by decide)) ?_
      rintro _ w4 ⟨rfl, bx4, g4⟩
      conv => whnf
      have hbp4 := keep g4 hbp3
      refine ⟨_, hbp4.cell (i := 1) rfl, ?_⟩
      conv => whnf
      intro z hz
      replace hz := hz.trans (wu64n (n := p.ver.toNat) (by omega))
      subst hz
      conv => whnf
      refine Calls.ret (putc_calls bx4 (by simp [enc_len]) 4 p.ver.toNat (by decide) (by decide) (ver_lt _)) ?_
      rintro _ w5 ⟨rfl, bx5, g5⟩
      conv => whnf
      have hbp5 := keep g5 hbp4
      refine ⟨_, hbp5.cell0 rfl, ?_⟩
      rw [hk]
      conv => whnf
      refine vcCond_false lok (rfl) ?_
      conv => whnf
      refine vcCond_true lok (rfl) ?_
      conv => whnf
      refine ⟨_, hbp5.cell (i := 3) rfl, ?_⟩
      rw [hn]
      conv => whnf
      intro z hz
      replace hz := hz.trans (wu64n (n := n) (by omega))
      subst hz
      conv => whnf
      refine Calls.ret (putc_calls bx5 (by simp [enc_len]) 1 n (by decide) (by decide) (by show n < 256; omega)) ?_
      rintro _ w6 ⟨rfl, bx6, g6⟩
      conv => whnf
      have hbp6 := keep g6 hbp5
      have g36 : Gr w3 w6 (some bx) := (g4.step g5 (.inl rfl)).step g6 (.inl rfl)
      have x6 : Ext w w6 := g36.extOf x03 (fun g hg => by cases hg; omega)
      obtain ⟨a6, c6, hb6, ho6, hne6, _⟩ := bx6
      refine ⟨_, hb6.cell0 rfl, ?_⟩
      conv => whnf
      refine ⟨_, hbp6.cell (i := 6) rfl, ?_⟩
      conv => whnf
      have z6 := hb6.lt
      have k7 := ho6.append (ty := 22) (d := c) e8.toElem (fun _ => rfl) (hd.ext x6) (by simp [enc_len]; omega) (by omega)
      obtain ⟨a7, c7, w7, hr7, ho7, hg7, hbl7⟩ := k7
      refine ⟨_, _, hr7, ?_⟩
      have x7 : Ext w w7 := hg7.extOf x6 (fun g hg => by have := (ho6.ge g hg).1; omega)
      have hb7 : Blk w7 bx 22 [.slice a6 ([] ++ enc 1 2 ++ enc 4 p.ver.toNat ++ enc 1 n).length c6] := hb6.keep (hg7.block bx z6 (fun e => hne6 e.symm))
      conv => whnf
      refine ⟨hb7.can 0 (by simp) _ rfl, fun w8 hw8 => ?_⟩
      have hb8 : Blk w8 bx 22 [.slice a7 ([] ++ enc 1 2 ++ enc 4 p.ver.toNat ++ enc 1 n ++ p.data).length c7] := by rw [hw8]; exact hb7.set 0 _
      have g8 := gr_of_set hw8
      have x8 : Ext w w8 := g8.extOf x7 (fun g hg => by cases hg; omega)
      have ho8 : Own 5 u8v bx w8 a7 c7 ([] ++ enc 1 2 ++ enc 4 p.ver.toNat ++ enc 1 n ++ p.data) := g8.keepOwn ho7 (fun g hg e => by
        cases e
        rcases hbl7 with h | h
        · exact hne6 (h.symm.trans hg)
        · rw [hg] at h; cases h; omega)
      clear hw8
      conv => whnf
      refine ⟨_, hb8.cell0 rfl, ?_⟩
      conv => whnf
      refine Calls.ret (seal_calls ho8.sl (by simp [enc_len]; omega)) ?_
      rintro _ w9 ⟨a9, c9, rfl, ho9, x9⟩
      conv => whnf
      have eb : [] ++ enc 1 2 ++ enc 4 p.ver.toNat ++ enc 1 n ++ p.data = bodyF p := by
        have e1 : bodyF p = enc 1 2 ++ (enc 4 p.ver.toNat ++ (enc 1 n ++ p.data)) := by unfold bodyF; rw [hk, hn]; rfl
        rw [e1]; simp
      rw [eb] at ho9 ⊢
      exact ⟨a9, c9, rfl, ho9.base x8.size, x8.trans x9⟩
    · have hk : p.kind = 3 := by rw [hp]
      rw [hk]
      intro z hz
      have hz43 : z = ((3 : Nat) : Int) := by rw [hz, wu64]; rfl
      clear hz
      subst hz43
      conv => whnf
      refine Calls.ret (putc_calls bx0 (by decide) 1 3 (by decide) (by decide) (by decide)) ?_
      rintro _ w4 ⟨rfl, bx4, g4⟩
      conv => whnf
      have hbp4 := keep g4 hbp3
      refine ⟨_, hbp4.cell (i := 1) rfl, ?_⟩
      conv => whnf
      intro z hz
      replace hz := hz.trans (wu64n (n := p.ver.toNat) (by omega))
      subst hz
      conv => whnf
      refine Calls.ret (putc_calls bx4 (by simp [enc_len]) 4 p.ver.toNat (by decide) (by decide) (ver_lt _)) ?_
      rintro _ w5 ⟨rfl, bx5, g5⟩
      conv => whnf
      have hbp5 := keep g5 hbp4
      refine ⟨_, hbp5.cell0 rfl, ?_⟩
      rw [hk]
      conv => whnf
      refine vcCond_false lok (rfl) ?_
      conv => whnf
      refine vcCond_false lok (rfl) ?_
      conv => whnf
      refine vcCond_true lok (rfl) ?_
      conv => whnf
      refine ⟨_, hbp5.cell (i := 5) rfl, ?_⟩
      conv => whnf
      intro z hz
      replace hz := hz.trans (wu64n (n := p.hav.toNat) (by omega))
      subst hz
      conv => whnf
      refine Calls.ret (putc_calls bx5 (by simp [enc_len]) 4 p.hav.toNat (by decide) (by decide) (ver_lt _)) ?_
      rintro _ w6 ⟨rfl, bx6, g6⟩
      conv => whnf
      have hbp6 := keep g6 hbp5
      refine ⟨_, hbp6.cell (i := 4) rfl, ?_⟩
      rw [hn]
      conv => whnf
      intro z hz
      replace hz := hz.trans (wu64n (n := n) (by omega))
      subst hz
      conv => whnf
      refine Calls.ret (putc_calls bx6 (by simp [enc_len]) 1 n (by decide) (by decide) (by show n < 256; omega)) ?_
      rintro _ w7 ⟨rfl, bx7, g7⟩
      conv => whnf
      have g37 : Gr w3 w7 (some bx) := ((g4.step g5 (.inl rfl)).step g6 (.inl rfl)).step g7 (.inl rfl)
      have x7 : Ext w w7 := g37.extOf x03 (fun g hg => by cases hg; omega)
      obtain ⟨a7, c7, hb7, ho7, _, _⟩ := bx7
      refine ⟨_, hb7.cell0 rfl, ?_⟩
      conv => whnf
      refine Calls.ret (seal_calls ho7.sl (by simp [enc_len])) ?_
      rintro _ w8 ⟨a8, c8, rfl, ho8, x8⟩
      conv => whnf
      have eb : [] ++ enc 1 3 ++ enc 4 p.ver.toNat ++ enc 4 p.hav.toNat ++ enc 1 n = bodyF p := by
        have e1 : bodyF p = enc 1 3 ++ (enc 4 p.ver.toNat ++ (enc 4 p.hav.toNat ++ enc 1 n)) := by unfold bodyF; rw [hk, hn]; rfl
        rw [e1]; simp
      rw [eb] at ho8 ⊢
      exact ⟨a8, c8, rfl, ho8.base x7.size, x7.trans x8⟩

/-- the reference's put -/
theorem rputp_calls {w : World} {a : Option Addr} {c : Nat} {l : List (BitVec 8)} (h : Sl u8v w a l) (hl : l.length ≤ 16777216) (k n : Nat) (h1 : 1 ≤ k) (h2 : k ≤ 8) (hn : n < 256 ^ k) :
    Calls Try.prog 162 #[.slice a l.length c, .int .i64 k, .int .u64 n] w (Ret (BytesPost (l ++ enc k n) w)) := by
  have hn64 : n < 2 ^ 64 := Nat.lt_of_lt_of_le hn (Nat.pow_le_pow_right (n := 256) (by decide) h2)
  refine calls_of_vc lok Try.func162 ?_ rfl
  conv => whnf
  have g := rput_calls (c := c) h hl k n hn64
  rw [put_ok h1 h2 hn] at g
  refine Calls.ret (g) ?_
  rintro _ w1 ⟨a1, c1, rfl, ho1, x1⟩
  conv => whnf
  exact ⟨a1, c1, rfl, ho1, x1⟩

/-- the reference's Pack -/
theorem rpack_calls {w : World} (p : Pk) {a : Option Addr} {c : Nat} (hd : Sl u8v w a p.data) :
    Calls Try.prog 106 #[.agg (p.cells a c).toArray] w (Ret (PutPost (packF p) w)) := by
  refine calls_of_vc lok Try.func106 ?_ rfl
  conv => whnf
  intro w1 hw1
  have hb1 : Blk w1 w.heap.size 70 (p.cells a c) := by rw [hw1]; exact Blk.new w 70 _
  have x1 : Ext w w1 := by rw [hw1]; exact Ext.new _ _
  clear hw1
  conv => whnf
  refine ⟨p.cells a c, rfl, hb1.cells, ?_⟩
  conv => whnf
  refine Calls.ret (can_calls p a c) ?_
  rintro _ w2 ⟨rfl, x2⟩
  conv => whnf
  cases hc : canP p with
  | false =>
    have e : packF p = ([], 1) := if_neg (by rw [hc]; decide)
    rw [e]
    conv => whnf
    refine vcCond_true lok (rfl) ?_
    conv => whnf
    exact ⟨none, 0, rfl, Own.nil _ _ _ _, x1.trans x2⟩
  | true =>
    have e : packF p = (sealF (bodyF p), 0) := if_pos hc
    rw [e]
    conv => whnf
    refine vcCond_false lok (rfl) ?_
    conv => whnf
    have hb2 := hb1.ext x2
    have x02 := x1.trans x2
    have vlt := p.ver.isLt
    have hvl := p.hav.isLt
    have hkn : ∃ k : Nat, p.kind = k ∧ k < 256 := by
      have hcc := canP_cases hc
      rcases hcc with ⟨hp, _⟩ | ⟨hp, _⟩ | ⟨hp, _⟩
      · exact ⟨1, by rw [hp]; rfl, by decide⟩
      · exact ⟨2, by rw [hp]; rfl, by decide⟩
      · exact ⟨3, by rw [hp]; rfl, by decide⟩
    obtain ⟨k, hk, hk256⟩ := hkn
    refine vcDraw_meet lok mixed (Ext w2) [3] [0, 1, 2, 4, 5, 6, 3, 7, 8]
      (fun t : Option Addr × Nat => [(4, .slice t.1 (enc 1 k ++ enc 4 p.ver.toNat).length t.2)]) (fun t w' => Own 5 u8v w2.heap.size w' t.1 t.2 (enc 1 k ++ enc 4 p.ver.toNat) ∧ Ext w2 w') [4] (fun _ => rfl) rfl (by kernel_rfl) (fun w3 hw3 => ⟨hw3 ▸ Ext.drew w2, ?_⟩) ?_
    · have x3 : Ext w2 w3 := hw3 ▸ Ext.drew w2
      conv => whnf
      refine ⟨_, fun w' hw' => (hb2.ext hw').cell0 rfl, ?_⟩
      rw [hk]
      conv => whnf
      intro z hz
      replace hz := hz.trans (wu64n (n := k) (by omega))
      subst hz
      conv => whnf
      refine ⟨_, fun w' hw' => (hb2.ext hw').cell (i := 1) rfl, ?_⟩
      conv => whnf
      intro z hz
      replace hz := hz.trans (wu64n (n := p.ver.toNat) (by omega))
      subst hz
      conv => whnf
      refine Calls.ret (rputp_calls (c := 0) (Sl.nil u8v w3 none) (by decide) 1 k (by decide) (by decide) (by show k < 256; omega)) ?_
      rintro _ w4 ⟨a4, c4, rfl, ho4, x4⟩
      conv => whnf
      rw [List.nil_append] at ho4 ⊢
      refine ⟨_, fun _ h => h, x3.trans x4, ?_⟩
      conv => whnf
      refine Calls.ret (rputp_calls ho4.sl (by simp [enc_len]) 4 p.ver.toNat (by decide) (by decide) (ver_lt _)) ?_
      rintro _ w5 ⟨a5, c5, rfl, ho5, x5⟩
      conv => whnf
      exact ⟨(a5, c5), ⟨rfl, trivial⟩, ho5.base (x3.trans x4).size, (x3.trans x4).trans x5⟩
    rintro ⟨a3, c3⟩ w3 ⟨ho3, x3⟩
    have hb3 := hb2.ext x3
    have x03 := x02.trans x3
    conv => whnf
    refine ⟨_, hb3.cell0 rfl, ?_⟩
    rw [hk]
    conv => whnf
    have hcc := canP_cases hc
    rcases hcc with ⟨hp, n, hn, hn1, hn2⟩ | ⟨hp, ⟨n, hn, hn2⟩, hd1, hd2⟩ | ⟨hp, n, hn, hn2⟩
    · have hk1 : k = 1 := by rw [hp] at hk; have : (1 : Int) = (k : Int) := hk; omega
      subst hk1
      refine vcCond_true lok (rfl) ?_
      conv => whnf
      refine ⟨_, hb3.cell (i := 2) rfl, ?_⟩
      rw [hn]
      conv => whnf
      intro z hz
      replace hz := hz.trans (wu64n (n := n) (by omega))
      subst hz
      conv => whnf
      refine Calls.ret (rputp_calls ho3.sl (by simp [enc_len]) 2 n (by decide) (by decide) (by show n < 65536; omega)) ?_
      rintro _ w6 ⟨a6, c6, rfl, ho6, x6⟩
      conv => whnf
      refine Calls.ret (rseal_calls ho6.sl (by simp [enc_len])) ?_
      rintro _ w7 ⟨a7, c7, rfl, ho7, x7⟩
      conv => whnf
      have eb : enc 1 1 ++ enc 4 p.ver.toNat ++ enc 2 n = bodyF p := by
        have e1 : bodyF p = enc 1 1 ++ (enc 4 p.ver.toNat ++ enc 2 n) := by unfold bodyF; rw [hk, hn]; rfl
        rw [e1]; simp
      rw [eb] at ho7 ⊢
      exact ⟨a7, c7, rfl, ho7.base (x03.trans x6).size, (x03.trans x6).trans x7⟩
    · have hk1 : k = 2 := by rw [hp] at hk; have : (2 : Int) = (k : Int) := hk; omega
      subst hk1
      refine vcCond_false lok (rfl) ?_
      conv => whnf
      refine vcCond_true lok (rfl) ?_
      conv => whnf
      refine ⟨_, hb3.cell (i := 3) rfl, ?_⟩
      rw [hn]
      conv => whnf
      intro z hz
      replace hz := hz.trans (wu64n (n := n) (by omega))
      subst hz
      conv => whnf
      refine Calls.ret (rputp_calls ho3.sl (by simp [enc_len]) 1 n (by decide) (by decide) (by show n < 256; omega)) ?_
      rintro _ w6 ⟨a6, c6, rfl, ho6, x6⟩
      conv => whnf
      refine ⟨_, (hb3.ext x6).cell (i := 6) rfl, ?_⟩
      conv => whnf
      have k7 := ho6.append (ty := 22) (d := c) e8.toElem (fun _ => rfl) (hd.ext (x03.trans x6)) (by simp [enc_len]; omega) x6.size
      obtain ⟨a7, c7, w7, hr7, ho7, hg7, _⟩ := k7
      refine ⟨_, _, hr7, ?_⟩
      have x7 : Ext w3 w7 := hg7.extOf x6 (fun g hg => (ho6.ge g hg).1)
      conv => whnf
      refine Calls.ret (rseal_calls ho7.sl (by simp [enc_len]; omega)) ?_
      rintro _ w8 ⟨a8, c8, rfl, ho8, x8⟩
      conv => whnf
      have eb : enc 1 2 ++ enc 4 p.ver.toNat ++ enc 1 n ++ p.data = bodyF p := by
        have e1 : bodyF p = enc 1 2 ++ (enc 4 p.ver.toNat ++ (enc 1 n ++ p.data)) := by unfold bodyF; rw [hk, hn]; rfl
        rw [e1]; simp
      rw [eb] at ho8 ⊢
      exact ⟨a8, c8, rfl, ho8.base (x03.trans x7).size, (x03.trans x7).trans x8⟩
    · have hk1 : k = 3 := by rw [hp] at hk; have : (3 : Int) = (k : Int) := hk; omega
      subst hk1
      refine vcCond_false lok (rfl) ?_
      conv => whnf
      refine vcCond_false lok (rfl) ?_
      conv => whnf
      refine vcCond_true lok (rfl) ?_
      conv => whnf
      refine vcDraw_meet lok mixed (Ext w3) [4] [0, 1, 2, 3, 5, 6, 7, 4, 8, 9]
        (fun t : Option Addr × Nat => [(4, .slice t.1 (bodyF p).length t.2)]) (fun t w' => Own 5 u8v w3.heap.size w' t.1 t.2 (bodyF p) ∧ Ext w3 w') [4] (fun _ => rfl) rfl (by kernel_rfl) (fun w4 hw4 => ⟨hw4 ▸ Ext.drew w3, ?_⟩) ?_
      · have x4 : Ext w3 w4 := hw4 ▸ Ext.drew w3
        conv => whnf
        refine ⟨_, fun w' hw' => (hb3.ext hw').cell (i := 5) rfl, ?_⟩
        conv => whnf
        intro z hz
        replace hz := hz.trans (wu64n (n := p.hav.toNat) (by omega))
        subst hz
        conv => whnf
        refine ⟨_, fun w' hw' => (hb3.ext hw').cell (i := 4) rfl, ?_⟩
        rw [hn]
        conv => whnf
        intro z hz
        replace hz := hz.trans (wu64n (n := n) (by omega))
        subst hz
        conv => whnf
        refine Calls.ret (rputp_calls (ho3.ext x4).sl (by simp [enc_len]) 4 p.hav.toNat (by decide) (by decide) (ver_lt _)) ?_
        rintro _ w6 ⟨a6, c6, rfl, ho6, x6⟩
        conv => whnf
        refine ⟨_, fun _ h => h, x4.trans x6, ?_⟩
        conv => whnf
        refine Calls.ret (rputp_calls ho6.sl (by simp [enc_len]) 1 n (by decide) (by decide) (by show n < 256; omega)) ?_
        rintro _ w7 ⟨a7, c7, rfl, ho7, x7⟩
        conv => whnf
        have eb : enc 1 3 ++ enc 4 p.ver.toNat ++ enc 4 p.hav.toNat ++ enc 1 n = bodyF p := by
          have e1 : bodyF p = enc 1 3 ++ (enc 4 p.ver.toNat ++ (enc 4 p.hav.toNat ++ enc 1 n)) := by unfold bodyF; rw [hk, hn]; rfl
          rw [e1]; simp
        rw [eb] at ho7 ⊢
        exact ⟨(a7, c7), ⟨rfl, trivial⟩, ho7.base (x4.trans x6).size, (x4.trans x6).trans x7⟩
      rintro ⟨a4, c4⟩ w4 ⟨ho4, x4⟩
      have lb : (bodyF p).length ≤ 100 := by
        have e1 : bodyF p = enc 1 3 ++ (enc 4 p.ver.toNat ++ (enc 4 p.hav.toNat ++ enc 1 n)) := by unfold bodyF; rw [hk, hn]; rfl
        rw [e1]; simp [enc_len]
      conv => whnf
      refine Calls.ret (rseal_calls ho4.sl (by omega)) ?_
      rintro _ w8 ⟨a8, c8, rfl, ho8, x8⟩
      conv => whnf
      exact ⟨a8, c8, rfl, ho8.base (x03.trans x4).size, (x03.trans x4).trans x8⟩
end Go.Proofs.Ytgipackjnncabaa

/- Walks of layer 23, third part: packets unpacked, compared. -/
set_option linter.unusedVariables false
namespace Go.Proofs.Ytgipackjnncabaa
open Go.Vc Go.RowKit

theorem getF_S {x : List (BitVec 8)} {a k : Nat} {e : Int} (ha : a ≤ x.length) (h1 : 1 ≤ k) (h2 : k ≤ 8) : getF x a k = if a + k ≤ x.length then (decN ((x.drop a).take k), 0) else (0, 2) := by
  unfold getF
  rw [if_neg (by omega)]
  by_cases h : a + k ≤ x.length
  · rw [if_neg (by omega), if_pos h, Int.toNat_natCast, Int.toNat_natCast]
  · rw [if_pos (by omega), if_neg h]

/-- the three boxes that the inner function of Unpack has -/
structure GetSt (w : World) (bx ba be : Nat) (a : Option Addr) (c : Nat) (x : List (BitVec 8)) (s : Nat × Int) : Prop where
  fx : Blk w bx 22 [.slice a x.length c]
  fa : Blk w ba 3 [.int .i64 s.1]
  fe : Blk w be 26 [.int .i64 s.2]
  sl : Sl u8v w a x
  n1 : ba ≠ bx
  n2 : be ≠ bx
  n3 : ba ≠ be

theorem getc_calls {w : World} {bx ba be : Nat} {a : Option Addr} {c : Nat} {x : List (BitVec 8)} {s : Nat × Int} (h : GetSt w bx ba be a c x s) (hl : x.length ≤ 16777216) (hs : s.1 ≤ x.length) (hna : x ≠ [] → ∀ g, blockOf a = some g → g ≠ ba ∧ g ≠ be) (k : Nat) (h1 : 1 ≤ k) (h2 : k ≤ 8) :
    Calls Try.prog 163 #[.int .i64 k, .pointer (some ⟨bx, 0, none⟩), .pointer (some ⟨ba, 0, none⟩), .pointer (some ⟨be, 0, none⟩)] w
      (Ret fun v w' => v = .int .u64 (getS x s k).1 ∧ GetSt w' bx ba be a c x (getS x s k).2 ∧ Mod (fun b => b = ba ∨ b = be) w w') := by
  obtain ⟨at_, e⟩ := s
  have hs : at_ ≤ x.length := hs
  refine calls_of_vc lok Try.func163 ?_ rfl
  conv => whnf
  refine ⟨_, h.fx.cell0 rfl, ?_⟩
  conv => whnf
  refine ⟨_, h.fa.cell0 rfl, ?_⟩
  conv => whnf
  have gq := get_calls (c := c) h.sl (by omega) (at_ : Int) (k : Int) (by omega)
  rw [getF_S (e := 0) hs h1 h2] at gq
  by_cases hk : at_ + k ≤ x.length
  · rw [if_pos hk] at gq
    have eS : getS x (at_, e) k = (decN ((x.drop at_).take k), (at_ + k, e)) := if_pos hk
    rw [eS]
    refine Calls.ret (gq) ?_
    rintro _ w1 ⟨rfl, hw1⟩
    conv => whnf
    subst hw1
    conv => whnf
    refine vcCond_false lok (rfl) ?_
    conv => whnf
    refine ⟨_, h.fa.cell0 rfl, ?_⟩
    conv => whnf
    refine ⟨by omega, ?_⟩
    conv => whnf
    refine ⟨h.fa.can 0 (by simp) _ rfl, fun w2 hw2 => ?_⟩
    have hb2 : Blk w2 ba 3 [.int .i64 ((at_ : Int) + (k : Int))] := by rw [hw2]; exact h.fa.set 0 _
    have g2 := gr_of_set hw2
    have m2 : Mod (fun b => b = ba ∨ b = be) w1 w2 := Mod.ofGr g2 fun b hb => by cases hb; exact .inl rfl
    refine ⟨rfl, ⟨h.fx.keep (g2.block bx h.fx.lt (fun q => by cases q; exact h.n1 rfl)), ?_, h.fe.keep (g2.block be h.fe.lt (fun q => by cases q; exact h.n3 rfl)), m2.keepSl h.sl (fun hx g hg => fun q => by rcases q with q | q; exact (hna hx g hg).1 q; exact (hna hx g hg).2 q), h.n1, h.n2, h.n3⟩, m2⟩
    have e3 : ((at_ + k : Nat) : Int) = (at_ : Int) + (k : Int) := by omega
    show Blk w2 ba 3 [.int .i64 ((at_ + k : Nat) : Int)]
    rw [e3]
    exact hb2
  · rw [if_neg hk] at gq
    have eS : getS x (at_, e) k = (0, (at_, 4)) := if_neg hk
    rw [eS]
    refine Calls.ret (gq) ?_
    rintro _ w1 ⟨rfl, hw1⟩
    conv => whnf
    subst hw1
    conv => whnf
    refine vcCond_true lok (rfl) ?_
    conv => whnf
    refine ⟨h.fe.can 0 (by simp) _ rfl, fun w2 hw2 => ?_⟩
    have hb2 : Blk w2 be 26 [.int .i64 4] := by rw [hw2]; exact h.fe.set 0 _
    have g2 := gr_of_set hw2
    have m2 : Mod (fun b => b = ba ∨ b = be) w1 w2 := Mod.ofGr g2 fun b hb => by cases hb; exact .inr rfl
    exact ⟨rfl, ⟨h.fx.keep (g2.block bx h.fx.lt (fun q => by cases q; exact h.n2 rfl)), h.fa.keep (g2.block ba h.fa.lt (fun q => by cases q; exact h.n3 rfl)), hb2, m2.keepSl h.sl (fun hx g hg => fun q => by rcases q with q | q; exact (hna hx g hg).1 q; exact (hna hx g hg).2 q), h.n1, h.n2, h.n3⟩, m2⟩

theorem getS_le {x : List (BitVec 8)} {s : Nat × Int} {k : Nat} (h : s.1 ≤ x.length) : (getS x s k).2.1 ≤ x.length := by
  unfold getS
  split
  · assumption
  · exact h
theorem getS_lt {x : List (BitVec 8)} {s : Nat × Int} {k : Nat} : (getS x s k).1 < 256 ^ k := by
  unfold getS
  split
  · rename_i h
    exact dec_lt x s.1 k h
  · exact Nat.pow_pos (by decide)

/-- a packet in a struct, its data in new memory -/
def PkPost (r : Pk × Int) (w : World) (v : Value) (w' : World) : Prop :=
  ∃ a c, v = .tuple #[.agg (r.1.cells a c).toArray, .int .i64 r.2] ∧ Own 5 u8v w.heap.size w' a c r.1.data ∧ Ext w w'

theorem built112z : Try.prog.built 112 [] = some #[.int .i64 0, .int .u32 0, .int .i64 0, .int .i64 0, .int .i64 0, .int .u32 0, .slice none 0 0] := by kernel_rfl
theorem built70z : Try.prog.built 70 [] = some #[.int .i64 0, .int .u32 0, .int .i64 0, .int .i64 0, .int .i64 0, .int .u32 0, .slice none 0 0] := by kernel_rfl
theorem built70 (k v : Int) : Try.prog.built 70 [(0, .int .i64 k), (1, .int .u32 v)] = some #[.int .i64 k, .int .u32 v, .int .i64 0, .int .i64 0, .int .i64 0, .int .u32 0, .slice none 0 0] := by kernel_rfl

theorem wi64n {n : Nat} (h : n < 9223372036854775808) : IntKind.i64.wrap (n : Int) = (n : Int) := wi64 (by omega)
theorem wu32n {n : Nat} : IntKind.u32.wrap (n : Int) = ((BitVec.ofNat 32 n).toNat : Int) := by rw [wu32, BitVec.toNat_ofNat]; omega

set_option maxHeartbeats 4000000 in
/-- Unpack -/
theorem unpack_calls {w : World} {a : Option Addr} {c : Nat} {bs : List (BitVec 8)} (h : Sl u8v w a bs) (hl : bs.length ≤ 16777216) (hc : bs.length ≤ c) :
    Calls Try.prog 107 #[.slice a bs.length c] w (Ret (PkPost (unpackF bs) w)) := by
  refine calls_of_vc lok Try.func107 ?_ rfl
  conv => whnf
  intro w1 hw1
  have hb1 : Blk w1 w.heap.size 112 (Pk.zero.cells none 0) := by rw [hw1]; exact Blk.new w 112 _
  have x1 : Ext w w1 := by rw [hw1]; exact Ext.new _ _
  clear hw1
  conv => whnf
  refine Calls.ret (open_calls (h.ext x1) hl hc) ?_
  rintro _ w2 ⟨a2, c2, rfl, ho2, x2⟩
  conv => whnf
  have hol := open_len bs
  have hoc := ho2.le.1
  have z1 := hb1.lt
  have z1' := x1.size
  have z2 := x2.size
  conv => whnf
  intro w3 hw3
  have hb3 : Blk w3 w2.heap.size 22 [.slice none 0 0] := by rw [hw3]; exact Blk.new w2 22 _
  have x3 : Ext w2 w3 := by rw [hw3]; exact Ext.new _ _
  clear hw3
  have z3 := hb3.lt
  conv => whnf
  intro w4 hw4
  have hb4 : Blk w4 w3.heap.size 26 [.int .i64 0] := by rw [hw4]; exact Blk.new w3 26 _
  have x4 : Ext w3 w4 := by rw [hw4]; exact Ext.new _ _
  clear hw4
  have z4 := hb4.lt
  have hb34 := hb3.ext x4
  conv => whnf
  refine ⟨hb34.can 0 (by simp) _ rfl, fun w5 hw5 => ?_⟩
  have hb5 : Blk w5 w2.heap.size 22 [.slice a2 (openF bs).1.length c2] := by rw [hw5]; exact hb34.set 0 _
  have g5 := gr_of_set hw5
  clear hw5
  have hb45 : Blk w5 w3.heap.size 26 [.int .i64 0] := hb4.keep (g5.block _ hb4.lt (fun q => by have q' := Option.some.inj q; omega))
  conv => whnf
  refine ⟨hb45.can 0 (by simp) _ rfl, fun w6 hw6 => ?_⟩
  have hb46 : Blk w6 w3.heap.size 26 [.int .i64 (openF bs).2] := by rw [hw6]; exact hb45.set 0 _
  have g6 := gr_of_set hw6
  clear hw6
  have hb36 : Blk w6 w2.heap.size 22 [.slice a2 (openF bs).1.length c2] := hb5.keep (g6.block _ hb5.lt (fun q => by have q' := Option.some.inj q; omega))
  have x26 : Ext w2 w6 := g6.extOf (g5.extOf (x3.trans x4) (fun g hg => by cases hg; exact Nat.le_refl _)) (fun g hg => by cases hg; omega)
  have ho6 := ho2.ext x26
  have hb16 := hb1.ext (x2.trans x26)
  have x06 : Ext w w6 := (x1.trans x2).trans x26
  have z6 := x26.size
  have hbx := hb36.lt
  have hbe := hb46.lt
  generalize hbeq : w3.heap.size = be at *
  generalize hbxq : w2.heap.size = bx at *
  generalize hbr : w.heap.size = br at *
  clear g5 g6 hb5 hb45 hb34 hb3 hb4 x3 x4 hb1
  conv => whnf
  refine ⟨_, hb46.cell0 rfl, ?_⟩
  conv => whnf
  unfold unpackF
  have hxl : (openF bs).1.length ≤ 16777216 := by omega
  generalize (openF bs).1 = x at *
  generalize (openF bs).2 = e at *
  refine vcCond_split lok rfl (fun k1 => ?_) (fun k1 => ?_)
  · have k1 := ne_true k1
    rw [if_neg k1]
    conv => whnf
    refine vcDraw_meet lok mixed (fun w' => Blk w' be 26 [.int .i64 e]) [2] [0, 1, 2, 3]
      (fun _ : Unit => [(3, .int .i64 e)]) (fun _ w' => Blk w' br 112 (Pk.zero.cells none 0) ∧ Ext w w') [3] (fun _ => rfl) rfl (by kernel_rfl) (fun w7 hw7 => ⟨hb46.ext (hw7 ▸ Ext.drew w6), ?_⟩) ?_
    · have x7 : Ext w6 w7 := hw7 ▸ Ext.drew w6
      conv => whnf
      refine ⟨_, fun w => run_build w 112 _ _ built112z, ?_⟩
      conv => whnf
      refine ⟨_, fun w' hw' => hw'.cell0 rfl, ?_⟩
      conv => whnf
      have k8 := Blk.storeAgg lok (hb16.ext x7) (t := 112) (us := Pk.zero.cells none 0) rfl 0 (Nat.le_refl 7) (Pk.one _ _ _)
      obtain ⟨w8, hr8, hb8, g8⟩ := k8
      have hb8 : Blk w8 br 112 (Pk.zero.cells none 0) := hb8
      refine ⟨w8, hr8, ?_⟩
      refine ⟨_, fun _ h => h, (hb46.ext x7).keep (g8.block be (hb46.ext x7).lt (fun q => by have q' := Option.some.inj q; omega)), ?_⟩
      conv => whnf
      exact ⟨(), ⟨rfl, trivial⟩, hb8, g8.extOf (x06.trans x7) (fun g hg => by cases hg; omega)⟩
    rintro _ w7 ⟨hb7, x7⟩
    conv => whnf
    refine ⟨Pk.zero.cells none 0, rfl, hb7.cells, ?_⟩
    conv => whnf
    exact ⟨none, 0, rfl, Own.nil _ _ _ _, x7⟩
  · have k1 := ne_false k1
    subst k1
    rw [if_pos rfl]
    conv => whnf
    intro w7 hw7
    have hb7 : Blk w7 w6.heap.size 3 [.int .i64 0] := by rw [hw7]; exact Blk.new w6 3 _
    have x7 : Ext w6 w7 := by rw [hw7]; exact Ext.new _ _
    clear hw7
    conv => whnf
    refine ⟨hb7.can 0 (by simp) _ rfl, fun w8 hw8 => ?_⟩
    have hb8 : Blk w8 w6.heap.size 3 [.int .i64 ((0 : Nat) : Int)] := by rw [hw8]; exact hb7.set 0 _
    have g8 := gr_of_set hw8
    clear hw8
    have x8 : Ext w6 w8 := g8.extOf x7 (fun g hg => by cases hg; exact Nat.le_refl _)
    have zba := hb8.lt
    have st0 : GetSt w8 bx w6.heap.size be a2 c2 x (0, 0) := ⟨hb36.ext x8, hb8, hb46.ext x8, (ho6.ext x8).sl, by omega, by omega, by omega⟩
    have ho8 := ho6.ext x8
    have hb18 := hb16.ext x8
    have x08 := x06.trans x8
    generalize hbaq : w6.heap.size = ba at *
    have hna : x ≠ [] → ∀ g, blockOf a2 = some g → g ≠ ba ∧ g ≠ be := fun _ g hg => by have := (ho2.ge g hg).2; omega
    have mE : ∀ {u u' : World}, Mod (fun b => b = ba ∨ b = be) u u' → Ext w u → Ext w u' := fun m xx => m.above xx fun b hb => by rcases hb with hb | hb <;> omega
    have mB : ∀ {u u' : World} {b : Nat} {T : TypeId} {vs : List Value}, Mod (fun b => b = ba ∨ b = be) u u' → b ≠ ba → b ≠ be → Blk u b T vs → Blk u' b T vs := fun m n1 n2 hb => m.keepBlk hb (fun q => by rcases q with q | q; exact n1 q; exact n2 q)
    clear hb46 hb36 hb7 x7 x8 g8 hb8 x26 ho6 hb16 x06
    conv => whnf
    refine Calls.ret (getc_calls st0 hxl (Nat.zero_le _) hna 1 (by decide) (by decide)) ?_
    rintro _ w9 ⟨rfl, st1, m1⟩
    conv => whnf
    have l1 := getS_le (x := x) (s := (0, 0)) (k := 1) (Nat.zero_le _)
    have t1 := getS_lt (x := x) (s := (0, 0)) (k := 1)
    intro z hz
    replace hz := hz.trans (wi64n (n := (getS x (0, 0) 1).1) (by have : (256 : Nat) ^ 1 = 256 := rfl; omega))
    subst hz
    conv => whnf
    refine Calls.ret (getc_calls st1 hxl l1 hna 4 (by decide) (by decide)) ?_
    rintro _ w10 ⟨rfl, st2, m2⟩
    conv => whnf
    have l2 := getS_le (x := x) (s := (getS x (0, 0) 1).2) (k := 4) l1
    intro z hz
    replace hz := hz.trans (wu32n)
    subst hz
    conv => whnf
    unfold okUp
    have eU : upF x = (let k := getS x (0, 0) 1; let v := getS x k.2 4; if k.1 = 1 then (let n := getS x v.2 2; (⟨1, BitVec.ofNat 32 v.1, n.1, 0, 0, 0#32, []⟩, n.2)) else if k.1 = 2 then (let n := getS x v.2 1; (⟨2, BitVec.ofNat 32 v.1, 0, n.1, 0, 0#32, x.drop n.2.1⟩, (x.length, n.2.2))) else if k.1 = 3 then (let h := getS x v.2 4; let st := getS x h.2 1; (⟨3, BitVec.ofNat 32 v.1, 0, 0, st.1, BitVec.ofNat 32 h.1, []⟩, st.2)) else (⟨k.1, BitVec.ofNat 32 v.1, 0, 0, 0, 0#32, []⟩, v.2)) := rfl
    simp only at eU
    generalize getS x (getS x (0, 0) 1).2 4 = v2 at *
    generalize getS x (0, 0) 1 = v1 at *
    obtain ⟨kn, s1⟩ := v1
    obtain ⟨vn, s2⟩ := v2
    simp only at eU l1 l2 t1 st2
    have x10 := mE m2 (mE m1 x08)
    have hb110 := mB m2 (by omega) (by omega) (mB m1 (by omega) (by omega) hb18)
    refine ⟨_, fun w => run_build w 112 _ _ (built112 kn (BitVec.ofNat 32 vn).toNat), ?_⟩
    conv => whnf
    intro w11 hw11
    have hb11 : Blk w11 w10.heap.size 112 (Pk.zero.cells none 0) := by rw [hw11]; exact Blk.new w10 112 _
    have x11 : Ext w10 w11 := by rw [hw11]; exact Ext.new _ _
    clear hw11
    conv => whnf
    have k12 := Blk.storeAgg lok hb11 (t := 112) (us := (⟨kn, BitVec.ofNat 32 vn, 0, 0, 0, 0#32, []⟩ : Pk).cells none 0) rfl 0 (Nat.le_refl 7) (Pk.one _ _ _)
    obtain ⟨w12, hr12, hb12, g12⟩ := k12
    have hb12 : Blk w12 w10.heap.size 112 ((⟨kn, BitVec.ofNat 32 vn, 0, 0, 0, 0#32, []⟩ : Pk).cells none 0) := hb12
    have x12 : Ext w10 w12 := g12.extOf x11 (fun g hg => by cases hg; exact Nat.le_refl _)
    have st12 : GetSt w12 bx ba be a2 c2 x s2 := ⟨st2.fx.ext x12, st2.fa.ext x12, st2.fe.ext x12, st2.sl.ext x12, st2.n1, st2.n2, st2.n3⟩
    have hb112 := hb110.ext x12
    have zp1 := st2.fx.lt
    have zp2 := st2.fa.lt
    have zp3 := st2.fe.lt
    have zp4 := hb110.lt
    have zp5 := x10.size
    have x012 := x10.trans x12
    have z12 := x12.size
    refine ⟨w12, hr12, ?_⟩
    clear hr12 g12 hb11 x11 st2 hb110
    generalize hbp : w10.heap.size = bp at *
    conv => whnf
    refine ⟨_, hb12.cell0 rfl, ?_⟩
    conv => whnf
    refine vcCond_meet (fun t : (Option Addr × Nat) × (Nat × Int) => [(2, .pointer (some ⟨br, 0, none⟩)), (4, .pointer (some ⟨bx, 0, none⟩)), (5, .pointer (some ⟨be, 0, none⟩)), (6, .pointer (some ⟨ba, 0, none⟩)), (8, .pointer (some ⟨bp, 0, none⟩))])
      (fun t w' => t.2 = (upF x).2 ∧ GetSt w' bx ba be a2 c2 x t.2 ∧ Blk w' bp 112 ((upF x).1.cells t.1.1 t.1.2) ∧ Own 5 u8v (br + 1) w' t.1.1 t.1.2 (upF x).1.data ∧ Blk w' br 112 (Pk.zero.cells none 0) ∧ Ext w w') ?_ ?_
    · refine vcCond_split lok rfl (fun k1 => ?_) (fun k1 => ?_)
      · have k1 : kn = 1 := by have q : (kn : Int) = 1 := dt k1; omega
        rw [if_pos k1] at eU
        conv => whnf
        refine Calls.ret (getc_calls st12 hxl l2 hna 2 (by decide) (by decide)) ?_
        rintro _ w13 ⟨rfl, st3, m3⟩
        conv => whnf
        have t3 := getS_lt (x := x) (s := s2) (k := 2)
        intro z hz
        replace hz := hz.trans (wi64n (n := (getS x s2 2).1) (by have : (256 : Nat) ^ 2 = 65536 := rfl; omega))
        subst hz
        conv => whnf
        have hb13 := mB m3 (by omega) (by omega) hb12
        have hb113 := mB m3 (by omega) (by omega) hb112
        have x13 := mE m3 x012
        refine ⟨hb13.can 2 (by simp [Pk.cells]) _ rfl, fun w14 hw14 => ?_⟩
        have hb14 : Blk w14 bp 112 ((⟨kn, BitVec.ofNat 32 vn, (getS x s2 2).1, 0, 0, 0#32, []⟩ : Pk).cells none 0) := by rw [hw14]; exact hb13.set 2 _
        have g14 := gr_of_set hw14
        have kB : ∀ {b : Nat} {T : TypeId} {vs : List Value}, b ≠ bp → Blk w13 b T vs → Blk w14 b T vs := fun n hb => hb.keep (g14.block _ hb.lt (fun q => by cases q; exact n rfl))
        rw [k1] at hb14
        rw [eU]
        exact ⟨((none, 0), (getS x s2 2).2), ⟨rfl, rfl, rfl, rfl, rfl, trivial⟩, rfl, ⟨kB (by omega) st3.fx, kB (by omega) st3.fa, kB (by omega) st3.fe, g14.keepSl st3.sl (fun _ g hg q => by cases q; have := (ho2.ge _ hg).2; omega), st3.n1, st3.n2, st3.n3⟩, hb14, Own.nil _ _ _ _, kB (by omega) hb113, g14.extOf x13 (fun g hg => by cases hg; omega)⟩
      · have k1 : ¬ kn = 1 := by have q : ¬ (kn : Int) = 1 := df k1; omega
        rw [if_neg k1] at eU
        conv => whnf
        refine vcCond_split lok rfl (fun k2 => ?_) (fun k2 => ?_)
        · have k2 : kn = 2 := by have q : (kn : Int) = 2 := dt k2; omega
          rw [if_pos k2] at eU
          conv => whnf
          refine Calls.ret (getc_calls st12 hxl l2 hna 1 (by decide) (by decide)) ?_
          rintro _ w13 ⟨rfl, st3, m3⟩
          conv => whnf
          have t3 := getS_lt (x := x) (s := s2) (k := 1)
          have l3 := getS_le (x := x) (s := s2) (k := 1) l2
          intro z hz
          replace hz := hz.trans (wi64n (n := (getS x s2 1).1) (by have : (256 : Nat) ^ 1 = 256 := rfl; omega))
          subst hz
          conv => whnf
          have hb13 := mB m3 (by omega) (by omega) hb12
          have hb113 := mB m3 (by omega) (by omega) hb112
          have x13 := mE m3 x012
          generalize getS x s2 1 = v3 at *
          obtain ⟨cn, s3⟩ := v3
          have l3 : s3.1 ≤ x.length := l3
          refine ⟨hb13.can 3 (by simp [Pk.cells]) _ rfl, fun w14 hw14 => ?_⟩
          have hb14 : Blk w14 bp 112 ((⟨kn, BitVec.ofNat 32 vn, 0, cn, 0, 0#32, []⟩ : Pk).cells none 0) := by rw [hw14]; exact hb13.set 3 _
          have g14 := gr_of_set hw14
          have kB : ∀ {b : Nat} {T : TypeId} {vs : List Value}, b ≠ bp → Blk w13 b T vs → Blk w14 b T vs := fun n hb => hb.keep (g14.block _ hb.lt (fun q => by cases q; exact n rfl))
          have st4 : GetSt w14 bx ba be a2 c2 x s3 := ⟨kB (by omega) st3.fx, kB (by omega) st3.fa, kB (by omega) st3.fe, g14.keepSl st3.sl (fun _ g hg q => by cases q; have := (ho2.ge _ hg).2; omega), st3.n1, st3.n2, st3.n3⟩
          have hb114 := kB (by omega) hb113
          have x14 : Ext w w14 := g14.extOf x13 (fun g hg => by cases hg; omega)
          clear hw14
          conv => whnf
          refine ⟨_, st4.fx.cell0 rfl, ?_⟩
          conv => whnf
          refine ⟨_, st4.fa.cell0 rfl, ?_⟩
          conv => whnf
          refine ⟨⟨by omega, by omega, by omega⟩, ?_⟩
          intro aa haa
          have hsl : Sl u8v w14 aa (x.drop s3.1) := by rw [haa]; exact st4.sl.drop s3.1 c2 hoc
          clear haa
          have k15 := (Own.nil 5 u8v (br + 1) w14).append (ty := 22) (d := c2 - s3.1) e8.toElem (fun _ => rfl) hsl (by rw [List.length_drop]; simp; omega) hb114.lt
          rw [List.length_drop, List.nil_append] at k15
          obtain ⟨a15, c15, w15, hr15, ho15, g15, hbl15⟩ := k15
          conv => whnf
          refine ⟨_, _, hr15, ?_⟩
          have x15 : Ext w14 w15 := g15.extOf (Ext.refl _) (fun g hg => by cases hg)
          have hb15 := hb14.ext x15
          have hb115 := hb114.ext x15
          have st5 : GetSt w15 bx ba be a2 c2 x s3 := ⟨st4.fx.ext x15, st4.fa.ext x15, st4.fe.ext x15, st4.sl.ext x15, st4.n1, st4.n2, st4.n3⟩
          conv => whnf
          refine ⟨hb15.can 6 (by simp [Pk.cells]) _ rfl, fun w16 hw16 => ?_⟩
          have hb16 : Blk w16 bp 112 ((⟨kn, BitVec.ofNat 32 vn, 0, cn, 0, 0#32, x.drop s3.1⟩ : Pk).cells a15 c15) := by rw [hw16]; exact hb15.set 6 _
          have g16 := gr_of_set hw16
          clear hw16
          have kB2 : ∀ {b : Nat} {T : TypeId} {vs : List Value}, b ≠ bp → Blk w15 b T vs → Blk w16 b T vs := fun n hb => hb.keep (g16.block _ hb.lt (fun q => by cases q; exact n rfl))
          have st6 : GetSt w16 bx ba be a2 c2 x s3 := ⟨kB2 (by omega) st5.fx, kB2 (by omega) st5.fa, kB2 (by omega) st5.fe, g16.keepSl st5.sl (fun _ g hg q => by cases q; have := (ho2.ge _ hg).2; omega), st5.n1, st5.n2, st5.n3⟩
          have ho16 : Own 5 u8v (br + 1) w16 a15 c15 (x.drop s3.1) := g16.keepOwn ho15 (fun g hg q => by
            cases q
            rcases hbl15 with hbl | hbl
            · rw [hg] at hbl; cases hbl
            · rw [hg] at hbl
              have e5 := Option.some.inj hbl
              have := hb14.lt
              omega)
          have hb116 := kB2 (by omega) hb115
          have x16 : Ext w w16 := g16.extOf (x14.trans x15) (fun g hg => by cases hg; omega)
          conv => whnf
          refine ⟨_, st6.fx.cell0 rfl, ?_⟩
          conv => whnf
          refine ⟨st6.fa.can 0 (by simp) _ rfl, fun w17 hw17 => ?_⟩
          have hb17 : Blk w17 ba 3 [.int .i64 x.length] := by rw [hw17]; exact st6.fa.set 0 _
          have g17 := gr_of_set hw17
          have kB3 : ∀ {b : Nat} {T : TypeId} {vs : List Value}, b ≠ ba → Blk w16 b T vs → Blk w17 b T vs := fun n hb => hb.keep (g17.block _ hb.lt (fun q => by cases q; exact n rfl))
          have ho17 : Own 5 u8v (br + 1) w17 a15 c15 (x.drop s3.1) := g17.keepOwn ho16 (fun g hg q => by
            cases q
            rcases hbl15 with hbl | hbl
            · rw [hg] at hbl; cases hbl
            · rw [hg] at hbl
              have e5 := Option.some.inj hbl
              have := st4.fa.lt
              omega)
          rw [k2] at hb16
          rw [eU]
          exact ⟨((a15, c15), (x.length, s3.2)), ⟨rfl, rfl, rfl, rfl, rfl, trivial⟩, rfl, ⟨kB3 (fun q => st6.n1 q.symm) st6.fx, hb17, kB3 (fun q => st6.n3 q.symm) st6.fe, g17.keepSl st6.sl (fun hx g hg q => by cases q; exact (hna hx _ hg).1 rfl), st6.n1, st6.n2, st6.n3⟩, kB3 (by omega) hb16, ho17, kB3 (by omega) hb116, g17.extOf x16 (fun g hg => by cases hg; omega)⟩
        · have k2 : ¬ kn = 2 := by have q : ¬ (kn : Int) = 2 := df k2; omega
          rw [if_neg k2] at eU
          conv => whnf
          refine vcCond_split lok rfl (fun k3 => ?_) (fun k3 => ?_)
          · have k3 : kn = 3 := by have q : (kn : Int) = 3 := dt k3; omega
            rw [if_pos k3] at eU
            conv => whnf
            refine Calls.ret (getc_calls st12 hxl l2 hna 4 (by decide) (by decide)) ?_
            rintro _ w13 ⟨rfl, st3, m3⟩
            conv => whnf
            have l3 := getS_le (x := x) (s := s2) (k := 4) l2
            intro z hz
            replace hz := hz.trans (wu32n)
            subst hz
            conv => whnf
            have hb13 := mB m3 (by omega) (by omega) hb12
            have hb113 := mB m3 (by omega) (by omega) hb112
            have x13 := mE m3 x012
            generalize getS x s2 4 = v3 at *
            obtain ⟨hn, s3⟩ := v3
            have l3 : s3.1 ≤ x.length := l3
            refine ⟨hb13.can 5 (by simp [Pk.cells]) _ rfl, fun w14 hw14 => ?_⟩
            have hb14 : Blk w14 bp 112 ((⟨kn, BitVec.ofNat 32 vn, 0, 0, 0, BitVec.ofNat 32 hn, []⟩ : Pk).cells none 0) := by rw [hw14]; exact hb13.set 5 _
            have g14 := gr_of_set hw14
            clear hw14
            have kB : ∀ {b : Nat} {T : TypeId} {vs : List Value}, b ≠ bp → Blk w13 b T vs → Blk w14 b T vs := fun n hb => hb.keep (g14.block _ hb.lt (fun q => by cases q; exact n rfl))
            have st4 : GetSt w14 bx ba be a2 c2 x s3 := ⟨kB (by omega) st3.fx, kB (by omega) st3.fa, kB (by omega) st3.fe, g14.keepSl st3.sl (fun _ g hg q => by cases q; have := (ho2.ge _ hg).2; omega), st3.n1, st3.n2, st3.n3⟩
            have hb114 := kB (by omega) hb113
            have x14 : Ext w w14 := g14.extOf x13 (fun g hg => by cases hg; omega)
            conv => whnf
            refine Calls.ret (getc_calls st4 hxl l3 hna 1 (by decide) (by decide)) ?_
            rintro _ w15 ⟨rfl, st5, m5⟩
            conv => whnf
            have t5 := getS_lt (x := x) (s := s3) (k := 1)
            intro z hz
            replace hz := hz.trans (wi64n (n := (getS x s3 1).1) (by have : (256 : Nat) ^ 1 = 256 := rfl; omega))
            subst hz
            conv => whnf
            have hb15 := mB m5 (by omega) (by omega) hb14
            have hb115 := mB m5 (by omega) (by omega) hb114
            have x15 := mE m5 x14
            refine ⟨hb15.can 4 (by simp [Pk.cells]) _ rfl, fun w16 hw16 => ?_⟩
            have hb16 : Blk w16 bp 112 ((⟨kn, BitVec.ofNat 32 vn, 0, 0, (getS x s3 1).1, BitVec.ofNat 32 hn, []⟩ : Pk).cells none 0) := by rw [hw16]; exact hb15.set 4 _
            have g16 := gr_of_set hw16
            have kB2 : ∀ {b : Nat} {T : TypeId} {vs : List Value}, b ≠ bp → Blk w15 b T vs → Blk w16 b T vs := fun n hb => hb.keep (g16.block _ hb.lt (fun q => by cases q; exact n rfl))
            rw [k3] at hb16
            rw [eU]
            exact ⟨((none, 0), (getS x s3 1).2), ⟨rfl, rfl, rfl, rfl, rfl, trivial⟩, rfl, ⟨kB2 (by omega) st5.fx, kB2 (by omega) st5.fa, kB2 (by omega) st5.fe, g16.keepSl st5.sl (fun _ g hg q => by cases q; have := (ho2.ge _ hg).2; omega), st5.n1, st5.n2, st5.n3⟩, hb16, Own.nil _ _ _ _, kB2 (by omega) hb115, g16.extOf x15 (fun g hg => by cases hg; omega)⟩
          · have k3 : ¬ kn = 3 := by have q : ¬ (kn : Int) = 3 := df k3; omega
            rw [if_neg k3] at eU
            rw [eU]
            exact ⟨((none, 0), s2), ⟨rfl, rfl, rfl, rfl, rfl, trivial⟩, rfl, st12, hb12, Own.nil _ _ _ _, hb112, x012⟩
    rintro ⟨⟨ap, cp⟩, s⟩ w13 ⟨hs, st13, hb13, ho13, hb113, x13⟩
    have hs : s = (upF x).2 := hs
    rw [hs] at st13
    clear eU
    generalize upF x = up at *
    obtain ⟨p, s4⟩ := up
    have st13 : GetSt w13 bx ba be a2 c2 x s4 := st13
    have hb13 : Blk w13 bp 112 (p.cells ap cp) := hb13
    have ho13 : Own 5 u8v (br + 1) w13 ap cp p.data := ho13
    conv => whnf
    refine vcReg_meet lok (fun β : Bool => [(69, .bool β)]) (fun β w' => Ext w13 w' ∧ β = !(decide (s4.2 = 0 ∧ s4.1 = x.length) && canP p)) [69] (fun _ => rfl) rfl ?_ ?_
    · conv => whnf
      refine ⟨_, st13.fe.cell0 rfl, ?_⟩
      conv => whnf
      refine bcase (fun h1 => ?_) (fun h1 => ?_)
      · have h1 := ne_true h1
        conv => whnf
        exact ⟨_, ⟨rfl, trivial⟩, Ext.refl _, by rw [decide_eq_false (fun q => h1 q.1)]; rfl⟩
      · have h1 := ne_false h1
        conv => whnf
        refine ⟨_, st13.fa.cell0 rfl, ?_⟩
        conv => whnf
        refine ⟨_, st13.fx.cell0 rfl, ?_⟩
        conv => whnf
        refine bcase (fun h2 => ?_) (fun h2 => ?_)
        · have h2 := ne_true h2
          conv => whnf
          exact ⟨_, ⟨rfl, trivial⟩, Ext.refl _, by rw [decide_eq_false (fun q => h2 (by rw [q.2]))]; rfl⟩
        · have h2 := ne_false h2
          conv => whnf
          refine ⟨p.cells ap cp, rfl, hb13.cells, ?_⟩
          conv => whnf
          refine Calls.ret (right_calls p ap cp) ?_
          rintro _ w14 ⟨rfl, x14⟩
          conv => whnf
          exact ⟨_, ⟨rfl, trivial⟩, x14, by rw [decide_eq_true ⟨h1, by omega⟩]; rfl⟩
    rintro β w14 ⟨x14, hβ⟩
    have hb114 := hb113.ext x14
    have hb14 := hb13.ext x14
    have x014 := x13.trans x14
    have zz := hb114.lt
    conv => whnf
    refine vcCond_split lok rfl (fun k9 => ?_) (fun k9 => ?_)
    · rw [k9] at hβ
      have hno : ¬ (decide (s4.2 = 0 ∧ s4.1 = x.length) && canP p) = true := by intro q; rw [q] at hβ; cases hβ
      rw [if_neg hno]
      conv => whnf
      refine ⟨_, fun w => run_build w 112 _ _ built112z, ?_⟩
      conv => whnf
      have k15 := Blk.storeAgg lok hb114 (t := 112) (us := Pk.zero.cells none 0) rfl 0 (Nat.le_refl 7) (Pk.one _ _ _)
      obtain ⟨w15, hr15, hb15, g15⟩ := k15
      have hb15 : Blk w15 br 112 (Pk.zero.cells none 0) := hb15
      refine ⟨w15, hr15, ?_⟩
      conv => whnf
      refine ⟨Pk.zero.cells none 0, rfl, hb15.cells, ?_⟩
      conv => whnf
      exact ⟨none, 0, rfl, Own.nil _ _ _ _, g15.extOf x014 (fun g hg => by cases hg; omega)⟩
    · rw [k9] at hβ
      have hyes : (decide (s4.2 = 0 ∧ s4.1 = x.length) && canP p) = true := by revert hβ; cases (decide (s4.2 = 0 ∧ s4.1 = x.length) && canP p) <;> simp
      rw [if_pos hyes]
      conv => whnf
      refine ⟨p.cells ap cp, rfl, hb14.cells, ?_⟩
      conv => whnf
      have k15 := Blk.storeAgg lok hb114 (t := 112) (us := p.cells ap cp) rfl 0 (Nat.le_refl 7) (Pk.one _ _ _)
      obtain ⟨w15, hr15, hb15, g15⟩ := k15
      have hb15 : Blk w15 br 112 (p.cells ap cp) := hb15
      refine ⟨w15, hr15, ?_⟩
      conv => whnf
      refine ⟨p.cells ap cp, rfl, hb15.cells, ?_⟩
      conv => whnf
      have hne : ∀ g, blockOf ap = some g → g ≠ br := fun g hg => by have := (ho13.ge g hg).1; omega
      exact ⟨ap, cp, rfl, (by rw [hbr]; exact (g15.keepOwn (ho13.ext x14) (fun g hg q => by cases q; exact hne _ hg rfl)).base (Nat.le_succ _)), g15.extOf x014 (fun g hg => by cases hg; omega)⟩
end Go.Proofs.Ytgipackjnncabaa

/- Walks of layer 23, fourth part: the reference's unpacking, packets compared and handed over. -/
set_option linter.unusedVariables false
namespace Go.Proofs.Ytgipackjnncabaa
open Go.Vc Go.RowKit

theorem getF_Z {x : List (BitVec 8)} {a k : Nat} (h1 : 1 ≤ k) (h2 : k ≤ 8) : (getF x a k).1 = getZ x a k := by
  unfold getF getZ
  by_cases h : a + k ≤ x.length
  · rw [if_neg (by omega), if_neg (by omega), if_pos h, Int.toNat_natCast, Int.toNat_natCast]
  · rw [if_neg h]
    split
    · rfl
    · split
      · rfl
      · omega
theorem getZ_lt {x : List (BitVec 8)} {a k : Nat} : getZ x a k < 256 ^ k := by
  unfold getZ
  split
  · rename_i h
    exact dec_lt x a k h
  · exact Nat.pow_pos (by decide)

/-- the reference's get -/
theorem rgetz_calls {w : World} {a : Option Addr} {c : Nat} {x : List (BitVec 8)} (h : Sl u8v w a x) (hl : x.length ≤ 16777216) (at_ k : Nat) (h1 : 1 ≤ k) (h2 : k ≤ 8) :
    Calls Try.prog 164 #[.slice a x.length c, .int .i64 at_, .int .i64 k] w (Ret fun v w' => v = .int .u64 (getZ x at_ k) ∧ w' = w) := by
  refine calls_of_vc lok Try.func164 ?_ rfl
  conv => whnf
  have gq := rget_calls (c := c) h (by omega) (at_ : Int) (k : Int) (by omega)
  refine Calls.ret (gq) ?_
  rintro _ w1 ⟨rfl, hw1⟩
  conv => whnf
  rw [getF_Z h1 h2]
  exact ⟨rfl, hw1⟩

set_option maxHeartbeats 4000000 in
/-- the reference's Unpack -/
theorem runpack_calls {w : World} {a : Option Addr} {c : Nat} {bs : List (BitVec 8)} (h : Sl u8v w a bs) (hl : bs.length ≤ 16777216) (hc : bs.length ≤ c) :
    Calls Try.prog 108 #[.slice a bs.length c] w (Ret (PkPost (unpackF bs) w)) := by
  refine calls_of_vc lok Try.func108 ?_ rfl
  conv => whnf
  intro w1 hw1
  have hb1 : Blk w1 w.heap.size 70 (Pk.zero.cells none 0) := by rw [hw1]; exact Blk.new w 70 _
  have x1 : Ext w w1 := by rw [hw1]; exact Ext.new _ _
  clear hw1
  conv => whnf
  refine Calls.ret (ropen_calls (h.ext x1) hl hc) ?_
  rintro _ w2 ⟨a2, c2, rfl, ho2, x2⟩
  conv => whnf
  have hol := open_len bs
  have hoc := ho2.le.1
  have z1 := hb1.lt
  have z2 := x2.size
  have x02 := x1.trans x2
  have hb12 := hb1.ext x2
  have href := unpack_ref bs
  have huf : (openF bs).2 ≠ 0 → unpackF bs = (Pk.zero, (openF bs).2) := fun h0 => by unfold unpackF; rw [if_neg h0]
  have hxl : (openF bs).1.length ≤ 16777216 := by omega
  generalize (openF bs).1 = x at *
  generalize (openF bs).2 = e at *
  generalize hbr : w.heap.size = br at *
  conv => whnf
  refine vcCond_split lok rfl (fun k1 => ?_) (fun k1 => ?_)
  · have k1 := ne_true k1
    rw [huf k1]
    conv => whnf
    refine ⟨_, fun w => run_build w 70 _ _ built70z, ?_⟩
    conv => whnf
    have k15 := Blk.storeAgg lok hb12 (t := 70) (us := Pk.zero.cells none 0) rfl 0 (Nat.le_refl 7) (Pk.one _ _ _)
    obtain ⟨w15, hr15, hb15, g15⟩ := k15
    have hb15 : Blk w15 br 70 (Pk.zero.cells none 0) := hb15
    refine ⟨w15, hr15, ?_⟩
    conv => whnf
    refine ⟨Pk.zero.cells none 0, rfl, hb15.cells, ?_⟩
    conv => whnf
    exact ⟨none, 0, rfl, Own.nil _ _ _ _, g15.extOf x02 (fun g hg => by cases hg; omega)⟩
  have k1 := ne_false k1
  rw [href k1]
  conv => whnf
  refine Calls.ret (rgetz_calls ho2.sl hxl 0 1 (by decide) (by decide)) ?_
  rintro _ w3 ⟨rfl, hw3⟩
  conv => whnf
  subst hw3
  have t1 := getZ_lt (x := x) (a := 0) (k := 1)
  intro z hz
  replace hz := hz.trans (wi64n (n := getZ x 0 1) (by have : (256 : Nat) ^ 1 = 256 := rfl; omega))
  subst hz
  conv => whnf
  refine Calls.ret (rgetz_calls ho2.sl hxl 1 4 (by decide) (by decide)) ?_
  rintro _ w4 ⟨rfl, hw4⟩
  conv => whnf
  subst hw4
  intro z hz
  replace hz := hz.trans (wu32n)
  subst hz
  conv => whnf
  have eR : rawF x = (if getZ x 0 1 = 1 then ⟨1, BitVec.ofNat 32 (getZ x 1 4), getZ x 5 2, 0, 0, 0#32, []⟩ else if getZ x 0 1 = 2 then ⟨2, BitVec.ofNat 32 (getZ x 1 4), 0, getZ x 5 1, 0, 0#32, x.drop 6⟩
    else if getZ x 0 1 = 3 then ⟨3, BitVec.ofNat 32 (getZ x 1 4), 0, 0, getZ x 9 1, BitVec.ofNat 32 (getZ x 5 4), []⟩ else ⟨getZ x 0 1, BitVec.ofNat 32 (getZ x 1 4), 0, 0, 0, 0#32, []⟩) := rfl
  generalize getZ x 0 1 = kn at *
  generalize getZ x 1 4 = vn at *
  refine ⟨_, fun w => run_build w 70 _ _ (built70 kn (BitVec.ofNat 32 vn).toNat), ?_⟩
  conv => whnf
  intro w5 hw5
  have hb5 : Blk w5 w4.heap.size 70 (Pk.zero.cells none 0) := by rw [hw5]; exact Blk.new w4 70 _
  have x5 : Ext w4 w5 := by rw [hw5]; exact Ext.new _ _
  clear hw5
  conv => whnf
  have k6 := Blk.storeAgg lok hb5 (t := 70) (us := (⟨kn, BitVec.ofNat 32 vn, 0, 0, 0, 0#32, []⟩ : Pk).cells none 0) rfl 0 (Nat.le_refl 7) (Pk.one _ _ _)
  obtain ⟨w6, hr6, hb6, g6⟩ := k6
  have hb6 : Blk w6 w4.heap.size 70 ((⟨kn, BitVec.ofNat 32 vn, 0, 0, 0, 0#32, []⟩ : Pk).cells none 0) := hb6
  have x6 : Ext w4 w6 := g6.extOf x5 (fun g hg => by cases hg; exact Nat.le_refl _)
  refine ⟨w6, hr6, ?_⟩
  have hb16 := hb12.ext x6
  have x06 := x02.trans x6
  have zz := hb12.lt
  have ho6 := ho2.ext x6
  clear hr6 g6 hb5 x5
  generalize hbp : w4.heap.size = bp at *
  conv => whnf
  refine ⟨_, hb6.cell0 rfl, ?_⟩
  conv => whnf
  refine vcCond_meet (fun t : Option Addr × Nat => [(2, .pointer (some ⟨br, 0, none⟩)), (6, .pointer (some ⟨bp, 0, none⟩)), (0, .slice a bs.length c)])
    (fun t w' => Blk w' bp 70 ((rawF x).cells t.1 t.2) ∧ Own 5 u8v (br + 1) w' t.1 t.2 (rawF x).data ∧ Blk w' br 70 (Pk.zero.cells none 0) ∧ Ext w w') ?_ ?_
  · refine vcCond_split lok rfl (fun k1 => ?_) (fun k1 => ?_)
    · have k1 : kn = 1 := by have q : (kn : Int) = 1 := dt k1; omega
      rw [if_pos k1] at eR
      conv => whnf
      refine Calls.ret (rgetz_calls ho6.sl hxl 5 2 (by decide) (by decide)) ?_
      rintro _ w7 ⟨rfl, hw7⟩
      conv => whnf
      subst hw7
      have t3 := getZ_lt (x := x) (a := 5) (k := 2)
      intro z hz
      replace hz := hz.trans (wi64n (n := getZ x 5 2) (by have : (256 : Nat) ^ 2 = 65536 := rfl; omega))
      subst hz
      conv => whnf
      refine ⟨hb6.can 2 (by simp [Pk.cells]) _ rfl, fun w8 hw8 => ?_⟩
      have hb8 : Blk w8 bp 70 ((⟨kn, BitVec.ofNat 32 vn, getZ x 5 2, 0, 0, 0#32, []⟩ : Pk).cells none 0) := by rw [hw8]; exact hb6.set 2 _
      have g8 := gr_of_set hw8
      rw [k1] at hb8
      rw [eR]
      exact ⟨(none, 0), ⟨rfl, rfl, rfl, trivial⟩, hb8, Own.nil _ _ _ _, hb16.keep (g8.block _ hb16.lt (fun q => by have q' := Option.some.inj q; omega)), g8.extOf x06 (fun g hg => by cases hg; omega)⟩
    · have k1 : ¬ kn = 1 := by have q : ¬ (kn : Int) = 1 := df k1; omega
      rw [if_neg k1] at eR
      conv => whnf
      refine vcCond_split lok rfl (fun k2 => ?_) (fun k2 => ?_)
      · have k2 : kn = 2 := by have q : (kn : Int) = 2 := dt k2; omega
        rw [if_pos k2] at eR
        conv => whnf
        refine Calls.ret (rgetz_calls ho6.sl hxl 5 1 (by decide) (by decide)) ?_
        rintro _ w7 ⟨rfl, hw7⟩
        conv => whnf
        subst hw7
        have t3 := getZ_lt (x := x) (a := 5) (k := 1)
        intro z hz
        replace hz := hz.trans (wi64n (n := getZ x 5 1) (by have : (256 : Nat) ^ 1 = 256 := rfl; omega))
        subst hz
        conv => whnf
        refine ⟨hb6.can 3 (by simp [Pk.cells]) _ rfl, fun w8 hw8 => ?_⟩
        have hb8 : Blk w8 bp 70 ((⟨kn, BitVec.ofNat 32 vn, 0, getZ x 5 1, 0, 0#32, []⟩ : Pk).cells none 0) := by rw [hw8]; exact hb6.set 3 _
        have g8 := gr_of_set hw8
        have hb18 : Blk w8 br 70 (Pk.zero.cells none 0) := hb16.keep (g8.block _ hb16.lt (fun q => by have q' := Option.some.inj q; omega))
        have x8 : Ext w w8 := g8.extOf x06 (fun g hg => by cases hg; omega)
        have ho8 := g8.keepOwn ho6 (fun g hg q => by have q' := Option.some.inj q; have := (ho2.ge g hg).2; omega)
        clear hw8
        rw [k2] at hb8
        conv => whnf
        refine vcCond_split lok rfl (fun k3 => ?_) (fun k3 => ?_)
        · have k3 := dt k3
          conv => whnf
          refine vcDraw_meet lok mixed (fun w' => w' = w8.drew) [] [0, 1, 2, 3, 4, 5, 6]
            (fun _ : Unit => []) (fun _ w' => ∃ a9 c9, Blk w' bp 70 ((⟨2, BitVec.ofNat 32 vn, 0, getZ x 5 1, 0, 0#32, x.drop 6⟩ : Pk).cells a9 c9) ∧ Own 5 u8v (br + 1) w' a9 c9 (x.drop 6) ∧ Blk w' br 70 (Pk.zero.cells none 0) ∧ Ext w w') [] (fun _ => rfl) rfl (by kernel_rfl) (fun w9 hw9 => ⟨hw9, ?_⟩) ?_
          · have x9 : Ext w8 w9 := hw9 ▸ Ext.drew w8
            have hb9 := hb8.ext x9
            have hb19 := hb18.ext x9
            conv => whnf
            refine ⟨_, fun w' hw' => by rw [hw', ← hw9]; exact hb9.cell (i := 6) rfl, ?_⟩
            conv => whnf
            refine ⟨⟨by omega, by omega, by omega⟩, ?_⟩
            intro aa haa
            have hsl : Sl u8v w9 aa (x.drop 6) := by rw [haa]; exact (ho8.sl.ext x9).drop 6 c2 hoc
            clear haa
            have k15 := (Own.nil 5 u8v (br + 1) w9).append (ty := 22) (d := c2 - 6) e8.toElem (fun _ => rfl) hsl (by rw [List.length_drop]; simp; omega) hb19.lt
            rw [List.length_drop, List.nil_append] at k15
            obtain ⟨a15, c15, w15, hr15, ho15, g15, hbl15⟩ := k15
            conv => whnf
            refine ⟨_, _, hr15, ?_⟩
            have x15 : Ext w9 w15 := g15.extOf (Ext.refl _) (fun g hg => by cases hg)
            have hb15 := hb9.ext x15
            have hb115 := hb19.ext x15
            conv => whnf
            refine ⟨hb15.can 6 (by simp [Pk.cells]) _ rfl, fun w16 hw16 => ?_⟩
            have hb16' : Blk w16 bp 70 ((⟨2, BitVec.ofNat 32 vn, 0, getZ x 5 1, 0, 0#32, x.drop 6⟩ : Pk).cells a15 c15) := by
              rw [hw16]
              have := hb15.set 6 (.slice a15 (x.length - 6) c15)
              rw [← List.length_drop] at this
              exact this
            have g16 := gr_of_set hw16
            have ho16 : Own 5 u8v (br + 1) w16 a15 c15 (x.drop 6) := g16.keepOwn ho15 (fun g hg q => by
              cases q
              rcases hbl15 with hbl | hbl
              · rw [hg] at hbl; cases hbl
              · rw [hg] at hbl
                have e5 := Option.some.inj hbl
                have := hb9.lt
                omega)
            exact ⟨(), trivial, a15, c15, hb16', ho16, hb115.keep (g16.block _ hb115.lt (fun q => by have q' := Option.some.inj q; omega)), g16.extOf ((x8.trans x9).trans x15) (fun g hg => by cases hg; omega)⟩
          rintro _ w9 ⟨a9, c9, hb9, ho9, hb19, x9⟩
          conv => whnf
          rw [eR]
          exact ⟨(a9, c9), ⟨rfl, rfl, rfl, trivial⟩, hb9, ho9, hb19, x9⟩
        · have k3 := df k3
          conv => whnf
          have hnil : x.drop 6 = [] := List.drop_of_length_le (by omega)
          rw [hnil] at eR
          rw [eR]
          exact ⟨(none, 0), ⟨rfl, rfl, rfl, trivial⟩, hb8, Own.nil _ _ _ _, hb18, x8⟩
      · have k2 : ¬ kn = 2 := by have q : ¬ (kn : Int) = 2 := df k2; omega
        rw [if_neg k2] at eR
        conv => whnf
        refine vcCond_split lok rfl (fun k3 => ?_) (fun k3 => ?_)
        · have k3 : kn = 3 := by have q : (kn : Int) = 3 := dt k3; omega
          rw [if_pos k3] at eR
          conv => whnf
          refine Calls.ret (rgetz_calls ho6.sl hxl 5 4 (by decide) (by decide)) ?_
          rintro _ w7 ⟨rfl, hw7⟩
          conv => whnf
          subst hw7
          intro z hz
          replace hz := hz.trans (wu32n)
          subst hz
          conv => whnf
          refine ⟨hb6.can 5 (by simp [Pk.cells]) _ rfl, fun w8 hw8 => ?_⟩
          have hb8 : Blk w8 bp 70 ((⟨kn, BitVec.ofNat 32 vn, 0, 0, 0, BitVec.ofNat 32 (getZ x 5 4), []⟩ : Pk).cells none 0) := by rw [hw8]; exact hb6.set 5 _
          have g8 := gr_of_set hw8
          have hb18 : Blk w8 br 70 (Pk.zero.cells none 0) := hb16.keep (g8.block _ hb16.lt (fun q => by have q' := Option.some.inj q; omega))
          have x8 : Ext w w8 := g8.extOf x06 (fun g hg => by cases hg; omega)
          have ho8 := g8.keepOwn ho6 (fun g hg q => by have q' := Option.some.inj q; have := (ho2.ge g hg).2; omega)
          clear hw8
          conv => whnf
          refine Calls.ret (rgetz_calls ho8.sl hxl 9 1 (by decide) (by decide)) ?_
          rintro _ w9 ⟨rfl, hw9⟩
          conv => whnf
          subst hw9
          have t5 := getZ_lt (x := x) (a := 9) (k := 1)
          intro z hz
          replace hz := hz.trans (wi64n (n := getZ x 9 1) (by have : (256 : Nat) ^ 1 = 256 := rfl; omega))
          subst hz
          conv => whnf
          refine ⟨hb8.can 4 (by simp [Pk.cells]) _ rfl, fun w10 hw10 => ?_⟩
          have hb10 : Blk w10 bp 70 ((⟨kn, BitVec.ofNat 32 vn, 0, 0, getZ x 9 1, BitVec.ofNat 32 (getZ x 5 4), []⟩ : Pk).cells none 0) := by rw [hw10]; exact hb8.set 4 _
          have g10 := gr_of_set hw10
          rw [k3] at hb10
          rw [eR]
          exact ⟨(none, 0), ⟨rfl, rfl, rfl, trivial⟩, hb10, Own.nil _ _ _ _, hb18.keep (g10.block _ hb18.lt (fun q => by have q' := Option.some.inj q; omega)), g10.extOf x8 (fun g hg => by cases hg; omega)⟩
        · have k3 : ¬ kn = 3 := by have q : ¬ (kn : Int) = 3 := df k3; omega
          rw [if_neg k3] at eR
          rw [eR]
          exact ⟨(none, 0), ⟨rfl, rfl, rfl, trivial⟩, hb6, Own.nil _ _ _ _, hb16, x06⟩
  rintro ⟨ap, cp⟩ w7 ⟨hb7, ho7, hb17, x7⟩
  clear eR href huf
  generalize rawF x = p at *
  have hb7 : Blk w7 bp 70 (p.cells ap cp) := hb7
  have ho7 : Own 5 u8v (br + 1) w7 ap cp p.data := ho7
  conv => whnf
  refine ⟨p.cells ap cp, rfl, hb7.cells, ?_⟩
  conv => whnf
  refine Calls.ret (rpack_calls p ho7.sl) ?_
  rintro _ w8 ⟨a8, c8, rfl, ho8, x8⟩
  conv => whnf
  have hb18 := hb17.ext x8
  have hb8 := hb7.ext x8
  have x08 := x7.trans x8
  have zz2 := hb18.lt
  conv => whnf
  refine vcReg_meet lok (fun β : Bool => [(70, .bool β)]) (fun β w' => w' = w8 ∧ β = !decide (canP p = true ∧ sealF (bodyF p) = bs)) [70] (fun _ => rfl) rfl ?_ ?_
  · have hpk : (canP p = false ∧ packF p = ([], 1)) ∨ (canP p = true ∧ packF p = (sealF (bodyF p), 0)) := by
      unfold packF
      cases canP p <;> simp
    rcases hpk with ⟨hcp, ep⟩ | ⟨hcp, ep⟩
    · rw [ep]
      conv => whnf
      exact ⟨_, ⟨rfl, trivial⟩, rfl, by rw [decide_eq_false (fun q => by rw [hcp] at q; cases q.1)]; rfl⟩
    · rw [ep] at ho8 ⊢
      conv => whnf
      refine ⟨_, run_toStr ho8.sl, ?_⟩
      conv => whnf
      refine ⟨_, run_toStr (h.ext x08), ?_⟩
      conv => whnf
      intro γ hγ
      have hγ2 := str_eq hγ rfl rfl
      clear hγ
      subst hγ2
      conv => whnf
      refine ⟨_, ⟨rfl, trivial⟩, rfl, ?_⟩
      congr 1
      rw [decide_eq_decide]
      exact ⟨fun q => ⟨hcp, q⟩, fun q => q.2⟩
  rintro β w9 ⟨hw9, hβ⟩
  subst hw9
  conv => whnf
  refine vcCond_split lok rfl (fun k9 => ?_) (fun k9 => ?_)
  · rw [k9] at hβ
    have hno : ¬ (canP p = true ∧ sealF (bodyF p) = bs) := by intro q; rw [decide_eq_true q] at hβ; cases hβ
    rw [if_neg hno]
    conv => whnf
    refine ⟨_, fun w => run_build w 70 _ _ built70z, ?_⟩
    conv => whnf
    have k15 := Blk.storeAgg lok hb18 (t := 70) (us := Pk.zero.cells none 0) rfl 0 (Nat.le_refl 7) (Pk.one _ _ _)
    obtain ⟨w15, hr15, hb15, g15⟩ := k15
    have hb15 : Blk w15 br 70 (Pk.zero.cells none 0) := hb15
    refine ⟨w15, hr15, ?_⟩
    conv => whnf
    refine ⟨Pk.zero.cells none 0, rfl, hb15.cells, ?_⟩
    conv => whnf
    exact ⟨none, 0, rfl, Own.nil _ _ _ _, g15.extOf x08 (fun g hg => by cases hg; omega)⟩
  · rw [k9] at hβ
    have hyes : canP p = true ∧ sealF (bodyF p) = bs := by
      by_cases q : canP p = true ∧ sealF (bodyF p) = bs
      · exact q
      · rw [decide_eq_false q] at hβ; cases hβ
    rw [if_pos hyes]
    conv => whnf
    refine ⟨p.cells ap cp, rfl, hb8.cells, ?_⟩
    conv => whnf
    have k15 := Blk.storeAgg lok hb18 (t := 70) (us := p.cells ap cp) rfl 0 (Nat.le_refl 7) (Pk.one _ _ _)
    obtain ⟨w15, hr15, hb15, g15⟩ := k15
    have hb15 : Blk w15 br 70 (p.cells ap cp) := hb15
    refine ⟨w15, hr15, ?_⟩
    conv => whnf
    refine ⟨p.cells ap cp, rfl, hb15.cells, ?_⟩
    conv => whnf
    have hne : ∀ g, blockOf ap = some g → g ≠ br := fun g hg => by have := (ho7.ge g hg).1; omega
    exact ⟨ap, cp, rfl, (by rw [hbr]; exact (g15.keepOwn (ho7.ext x8) (fun g hg q => by cases q; exact hne _ hg rfl)).base (Nat.le_succ _)), g15.extOf x08 (fun g hg => by cases hg; omega)⟩

/-- two packets that are alike -/
theorem psame_calls {w : World} (p : Pk) {a b : Option Addr} {c d : Nat} (ha : Sl u8v w a p.data) (hb : Sl u8v w b p.data) :
    Calls Try.prog 109 #[.agg (p.cells a c).toArray, .agg (p.cells b d).toArray] w (Ret fun v w' => v = .bool true ∧ Ext w w') := by
  refine calls_of_vc lok Try.func109 ?_ rfl
  conv => whnf
  intro w1 hw1
  have hb1 : Blk w1 w.heap.size 70 (p.cells a c) := by rw [hw1]; exact Blk.new w 70 _
  have x1 : Ext w w1 := by rw [hw1]; exact Ext.new _ _
  clear hw1
  conv => whnf
  intro w2 hw2
  have hb2 : Blk w2 w1.heap.size 70 (p.cells b d) := by rw [hw2]; exact Blk.new w1 70 _
  have x2 : Ext w1 w2 := by rw [hw2]; exact Ext.new _ _
  clear hw2
  have hb12 := hb1.ext x2
  have x02 := x1.trans x2
  have eI : ∀ n : Int, decide (n = n) = true := fun n => decide_eq_true rfl
  conv => whnf
  refine vcReg_go lok ?_
  conv => whnf
  refine ⟨_, hb12.cell0 rfl, ?_⟩
  conv => whnf
  refine ⟨_, hb2.cell0 rfl, ?_⟩
  conv => whnf
  refine bcase (fun _ => ?_) (fun h5 => absurd rfl (df h5))
  conv => whnf
  refine ⟨_, hb12.cell (i := 1) rfl, ?_⟩
  conv => whnf
  refine ⟨_, hb2.cell (i := 1) rfl, ?_⟩
  conv => whnf
  refine bcase (fun _ => ?_) (fun h5 => absurd rfl (df h5))
  conv => whnf
  refine ⟨_, hb12.cell (i := 2) rfl, ?_⟩
  conv => whnf
  refine ⟨_, hb2.cell (i := 2) rfl, ?_⟩
  conv => whnf
  refine bcase (fun _ => ?_) (fun h5 => absurd rfl (df h5))
  conv => whnf
  refine ⟨_, hb12.cell (i := 3) rfl, ?_⟩
  conv => whnf
  refine ⟨_, hb2.cell (i := 3) rfl, ?_⟩
  conv => whnf
  refine bcase (fun _ => ?_) (fun h5 => absurd rfl (df h5))
  conv => whnf
  refine ⟨_, hb12.cell (i := 4) rfl, ?_⟩
  conv => whnf
  refine ⟨_, hb2.cell (i := 4) rfl, ?_⟩
  conv => whnf
  refine bcase (fun _ => ?_) (fun h5 => absurd rfl (df h5))
  conv => whnf
  refine ⟨_, hb12.cell (i := 5) rfl, ?_⟩
  conv => whnf
  refine ⟨_, hb2.cell (i := 5) rfl, ?_⟩
  conv => whnf
  refine bcase (fun _ => ?_) (fun h5 => absurd rfl (df h5))
  conv => whnf
  refine ⟨_, hb12.cell (i := 6) rfl, ?_⟩
  conv => whnf
  refine ⟨_, run_toStr (ha.ext x02), ?_⟩
  conv => whnf
  refine ⟨_, hb2.cell (i := 6) rfl, ?_⟩
  conv => whnf
  refine ⟨_, run_toStr (hb.ext x02), ?_⟩
  conv => whnf
  intro γ hγ
  have hγ2 : γ = true := by rw [str_eq hγ rfl rfl]; simp
  clear hγ
  subst hγ2
  conv => whnf
  exact ⟨rfl, x02⟩

theorem built112p (p : Pk) (a : Option Addr) (c : Nat) : Try.prog.built 112 [(0, .int .i64 p.kind), (1, u32v p.ver), (2, .int .i64 p.size), (3, .int .i64 p.chunk), (4, .int .i64 p.state), (5, u32v p.hav), (6, .slice a p.data.length c)] = some (p.cells a c).toArray := by kernel_rfl
theorem built70p (p : Pk) (a : Option Addr) (c : Nat) : Try.prog.built 70 [(0, .int .i64 p.kind), (1, u32v p.ver), (2, .int .i64 p.size), (3, .int .i64 p.chunk), (4, .int .i64 p.state), (5, u32v p.hav), (6, .slice a p.data.length c)] = some (p.cells a c).toArray := by kernel_rfl

/-- a packet handed over -/
theorem given_calls {w : World} (p : Pk) (a : Option Addr) (c : Nat) : Calls Try.prog 105 #[.agg (p.cells a c).toArray] w (Ret fun v w' => v = .agg (p.cells a c).toArray ∧ Ext w w') := by
  refine calls_of_vc lok Try.func105 ?_ rfl
  conv => whnf
  intro w1 hw1
  have hb1 : Blk w1 w.heap.size 70 (p.cells a c) := by rw [hw1]; exact Blk.new w 70 _
  have x1 : Ext w w1 := by rw [hw1]; exact Ext.new _ _
  clear hw1
  conv => whnf
  intro w2 hw2
  have hb2 : Blk w2 w1.heap.size 112 (Pk.zero.cells none 0) := by rw [hw2]; exact Blk.new w1 112 _
  have x2 : Ext w1 w2 := by rw [hw2]; exact Ext.new _ _
  clear hw2
  have hb12 := hb1.ext x2
  have z1 := x1.size
  conv => whnf
  refine ⟨_, hb12.cell0 rfl, ?_⟩
  conv => whnf
  refine ⟨_, hb12.cell (i := 1) rfl, ?_⟩
  conv => whnf
  refine ⟨_, hb12.cell (i := 2) rfl, ?_⟩
  conv => whnf
  refine ⟨_, hb12.cell (i := 3) rfl, ?_⟩
  conv => whnf
  refine ⟨_, hb12.cell (i := 4) rfl, ?_⟩
  conv => whnf
  refine ⟨_, hb12.cell (i := 5) rfl, ?_⟩
  conv => whnf
  refine ⟨_, hb12.cell (i := 6) rfl, ?_⟩
  conv => whnf
  refine ⟨_, fun w => run_build w 112 _ _ (built112p p a c), ?_⟩
  conv => whnf
  have k3 := Blk.storeAgg lok hb2 (t := 112) (us := p.cells a c) rfl 0 (Nat.le_refl 7) (Pk.one _ _ _)
  obtain ⟨w3, hr3, hb3, g3⟩ := k3
  have hb3 : Blk w3 w1.heap.size 112 (p.cells a c) := hb3
  refine ⟨w3, hr3, ?_⟩
  conv => whnf
  refine ⟨p.cells a c, rfl, hb3.cells, ?_⟩
  conv => whnf
  exact ⟨rfl, g3.extOf (x1.trans x2) (fun g hg => by cases hg; omega)⟩
theorem taken_calls {w : World} (p : Pk) (a : Option Addr) (c : Nat) : Calls Try.prog 110 #[.agg (p.cells a c).toArray] w (Ret fun v w' => v = .agg (p.cells a c).toArray ∧ Ext w w') := by
  refine calls_of_vc lok Try.func110 ?_ rfl
  conv => whnf
  intro w1 hw1
  have hb1 : Blk w1 w.heap.size 112 (p.cells a c) := by rw [hw1]; exact Blk.new w 112 _
  have x1 : Ext w w1 := by rw [hw1]; exact Ext.new _ _
  clear hw1
  conv => whnf
  intro w2 hw2
  have hb2 : Blk w2 w1.heap.size 70 (Pk.zero.cells none 0) := by rw [hw2]; exact Blk.new w1 70 _
  have x2 : Ext w1 w2 := by rw [hw2]; exact Ext.new _ _
  clear hw2
  have hb12 := hb1.ext x2
  have z1 := x1.size
  conv => whnf
  refine ⟨_, hb12.cell0 rfl, ?_⟩
  conv => whnf
  refine ⟨_, hb12.cell (i := 1) rfl, ?_⟩
  conv => whnf
  refine ⟨_, hb12.cell (i := 2) rfl, ?_⟩
  conv => whnf
  refine ⟨_, hb12.cell (i := 3) rfl, ?_⟩
  conv => whnf
  refine ⟨_, hb12.cell (i := 4) rfl, ?_⟩
  conv => whnf
  refine ⟨_, hb12.cell (i := 5) rfl, ?_⟩
  conv => whnf
  refine ⟨_, hb12.cell (i := 6) rfl, ?_⟩
  conv => whnf
  refine ⟨_, fun w => run_build w 70 _ _ (built70p p a c), ?_⟩
  conv => whnf
  have k3 := Blk.storeAgg lok hb2 (t := 70) (us := p.cells a c) rfl 0 (Nat.le_refl 7) (Pk.one _ _ _)
  obtain ⟨w3, hr3, hb3, g3⟩ := k3
  have hb3 : Blk w3 w1.heap.size 70 (p.cells a c) := hb3
  refine ⟨w3, hr3, ?_⟩
  conv => whnf
  refine ⟨p.cells a c, rfl, hb3.cells, ?_⟩
  conv => whnf
  exact ⟨rfl, g3.extOf (x1.trans x2) (fun g hg => by cases hg; omega)⟩
end Go.Proofs.Ytgipackjnncabaa
