/- Walks of layer 7, first part: a record's words; what a sector tells. -/
import Derived.Test.YtgipackjnncabaaW06f
import Derived.Test.YtgipackjnncabaaW03b
import Derived.Test.YtgipackjnncabaaPl07b
set_option linter.unusedVariables false
namespace Go.Proofs.Ytgipackjnncabaa
open Go.Vc Go.RowKit

theorem own_lit {w : World} (xs : List (BitVec 32)) (hx : xs.length ≤ 16777216) : Own 42 u32v w.heap.size (w.alloc (.cells (xs.map u32v).toArray 42)) (some ⟨w.heap.size, 0, none⟩) xs.length xs := by
  refine ⟨by simp, .inr ⟨w.heap.size, xs.length, _, rfl, Nat.le_refl _, heap_alloc_new w _, Nat.le_refl _, ?_, by simp, by simp [List.take_of_length_le]⟩⟩
  exact Nat.le_trans hx (by decide)

theorem run_two (w : World) (x y : BitVec 32) : ∃ w', (Instr.buildSlice 37 2 #[(0, u32v x), (1, u32v y)]).run Try.prog w = .ok (.slice (some ⟨w.heap.size, 0, none⟩) 2 2) w' ∧ Own 42 u32v w.heap.size w' (some ⟨w.heap.size, 0, none⟩) 2 [x, y] ∧ Ext w w' := by
  have g := run_buildN (P := Try.prog) (t := 37) (e := 42) e32.toElem [u32v x, u32v y] (by simp [u32v, Value.oneCell']) (by simp) w
  exact ⟨_, g, own_lit (w := w) [x, y] (by simp), Ext.new _ _⟩

theorem run_app {ty : TypeId} {B d c : Nat} {w : World} {a b : Option Addr} {xs ys : List (BitVec 32)} (h : Own 42 u32v B w a c xs) (hy : Sl u32v w b ys) (hlen : xs.length + ys.length ≤ 4294967296) (hB : B ≤ w.heap.size) :
    ∃ a' c' w', (Builtin.append_ #[37, 37] ty #[.slice a xs.length c, .slice b ys.length d]).run Try.prog w = .ok (.slice a' (xs ++ ys).length c') w' ∧ Own 42 u32v B w' a' c' (xs ++ ys) ∧ Gr w w' (blockOf a) := by
  have g := h.append (ty := ty) (d := d) e32.toElem (fun _ => rfl) hy hlen hB
  obtain ⟨a', c', w', h1, h2, h3, _⟩ := g
  exact ⟨a', c', w', h1, h2, h3⟩

def LaidPost (r : List (BitVec 32)) (w : World) (v : Value) (w' : World) : Prop :=
  ∃ a' c', v = .slice a' r.length c' ∧ Own 42 u32v w.heap.size w' a' c' r ∧ Ext w w'

set_option maxHeartbeats 1000000 in
theorem laid_calls {w : World} {a : Option Addr} {c : Nat} (n : BitVec 32) {rec : List (BitVec 32)} (h : Sl u32v w a rec) (hl : rec.length ≤ 65536) :
    Calls Try.prog 166 #[.int .u32 n.toNat, .slice a rec.length c] w (Ret (LaidPost (laidF n rec) w)) := by
  have elen : (laidF n rec).length = ((n :: BitVec.ofNat 32 rec.length :: rec) ++ [sumF (bytesF (n :: BitVec.ofNat 32 rec.length :: rec)), 0#32]).length := rfl
  refine calls_of_vc lok Try.func166 ?_ rfl
  conv => whnf
  intro z hz
  have hz2 : z = ((BitVec.ofNat 32 rec.length).toNat : Int) := by rw [hz, wu32, BitVec.toNat_ofNat]; omega
  clear hz
  subst hz2
  conv => whnf
  have g1 := run_two w n (BitVec.ofNat 32 rec.length)
  obtain ⟨w1, hr1, ho1, x1⟩ := g1
  refine ⟨_, _, hr1, ?_⟩
  conv => whnf
  have z1 := x1.size
  have g2 := run_app (ty := 37) (d := c) ho1 (h.ext x1) (by simp; omega) z1
  obtain ⟨a2, c2, w2, hr2, ho2, hg2⟩ := g2
  refine ⟨_, _, hr2, ?_⟩
  have ho2 : Own 42 u32v w.heap.size w2 a2 c2 (n :: BitVec.ofNat 32 rec.length :: rec) := ho2
  have x2 : Ext w w2 := hg2.extOf x1 (fun g hg => by cases hg; exact Nat.le_refl _)
  have el2 : ([n, BitVec.ofNat 32 rec.length] ++ rec).length = (n :: BitVec.ofNat 32 rec.length :: rec).length := rfl
  rw [el2]
  have hll : (n :: BitVec.ofNat 32 rec.length :: rec).length = rec.length + 2 := rfl
  unfold laidF at elen ⊢
  clear hr1 hr2 el2
  generalize (n :: BitVec.ofNat 32 rec.length :: rec) = hd at *
  conv => whnf
  refine Calls.ret (bytes_calls ho2.sl (by omega)) ?_
  rintro _ w3 ⟨a3, c3, rfl, ho3, x3⟩
  conv => whnf
  refine Calls.ret (sum_calls ho3.sl (by rw [bytesF_len]; omega)) ?_
  rintro _ w4 ⟨rfl, x4⟩
  conv => whnf
  have g5 := run_two w4 (sumF (bytesF hd)) 0#32
  obtain ⟨w5, hr5, ho5, x5⟩ := g5
  refine ⟨_, _, hr5, ?_⟩
  conv => whnf
  have x25 := (x3.trans x4).trans x5
  have z2 := x2.size
  have z25 := x25.size
  have g6 := run_app (ty := 37) (d := 2) (ho2.ext x25) ho5.sl (by simp; omega) (by omega)
  obtain ⟨a6, c6, w6, hr6, ho6, hg6⟩ := g6
  refine ⟨_, _, hr6, ?_⟩
  exact ⟨a6, c6, rfl, ho6, hg6.extOf (x2.trans x25) (fun g hg => (ho2.ge g hg).1)⟩

set_option maxHeartbeats 1000000 in
theorem rlaid_calls {w : World} {a : Option Addr} {c : Nat} (n : BitVec 32) {rec : List (BitVec 32)} (h : Sl u32v w a rec) (hl : rec.length ≤ 65536) :
    Calls Try.prog 170 #[.int .u32 n.toNat, .slice a rec.length c] w (Ret (LaidPost (laidF n rec) w)) := by
  refine calls_of_vc lok Try.func170 ?_ rfl
  conv => whnf
  intro z hz
  have hz9 : z = ((BitVec.ofNat 32 rec.length).toNat : Int) := by rw [hz, wu32, BitVec.toNat_ofNat]; omega
  clear hz
  subst hz9
  conv => whnf
  have g1 := run_two w n (BitVec.ofNat 32 rec.length)
  obtain ⟨w1, hr1, ho1, x1⟩ := g1
  refine ⟨_, _, hr1, ?_⟩
  conv => whnf
  have z1 := x1.size
  have g2 := run_app (ty := 37) (d := c) ho1 (h.ext x1) (by simp; omega) z1
  obtain ⟨a2, c2, w2, hr2, ho2, hg2⟩ := g2
  refine ⟨_, _, hr2, ?_⟩
  have ho2 : Own 42 u32v w.heap.size w2 a2 c2 (n :: BitVec.ofNat 32 rec.length :: rec) := ho2
  have x2 : Ext w w2 := hg2.extOf x1 (fun g hg => by cases hg; exact Nat.le_refl _)
  have el2 : ([n, BitVec.ofNat 32 rec.length] ++ rec).length = (n :: BitVec.ofNat 32 rec.length :: rec).length := rfl
  rw [el2]
  have hll : (n :: BitVec.ofNat 32 rec.length :: rec).length = rec.length + 2 := rfl
  unfold laidF
  clear hr1 hr2 el2
  generalize (n :: BitVec.ofNat 32 rec.length :: rec) = hd at *
  conv => whnf
  refine Calls.ret (rbytes_calls ho2.sl (by omega)) ?_
  rintro _ w3 ⟨a3, c3, rfl, ho3, x3⟩
  conv => whnf
  refine Calls.ret (rsum_calls ho3.sl (by rw [bytesF_len]; omega)) ?_
  rintro _ w4 ⟨rfl, hw4⟩
  conv => whnf
  subst hw4
  have g5 := run_two w4 (sumF (bytesF hd)) 0#32
  obtain ⟨w5, hr5, ho5, x5⟩ := g5
  refine ⟨_, _, hr5, ?_⟩
  conv => whnf
  have x25 := x3.trans x5
  have z2 := x2.size
  have z25 := x25.size
  have g6 := run_app (ty := 37) (d := 2) (ho2.ext x25) ho5.sl (by simp; omega) (by omega)
  obtain ⟨a6, c6, w6, hr6, ho6, hg6⟩ := g6
  refine ⟨_, _, hr6, ?_⟩
  exact ⟨a6, c6, rfl, ho6, hg6.extOf (x2.trans x25) (fun g hg => (ho2.ge g hg).1)⟩

theorem wi64k {n : Nat} (h : n < 9223372036854775808) : IntKind.i64.wrap (n : Int) = (n : Int) := wi64 (by omega)
/-- a word is read -/
theorem sl_rd {w : World} {a : Option Addr} {ws : List (BitVec 32)} (h : Sl u32v w a ws) (i : Int) (n k : Nat) (e : i = (n : Int) + (k : Int)) (hn : n + k < ws.length) :
    ∃ b o, a = some ⟨b, o, none⟩ ∧ (0 ≤ i ∧ i < (ws.length : Int)) ∧ w.cell? ⟨b, o + i.toNat, none⟩ = some (.int .u32 (((ws.drop n).getD k 0#32).toNat : Int)) := by
  have g := h.at i (by omega) (by omega)
  obtain ⟨b, o, ha, hc⟩ := g
  refine ⟨b, o, ha, ⟨by omega, by omega⟩, ?_⟩
  rw [hc, drop_get0]
  have : i.toNat = n + k := by omega
  rw [this]
  rfl

/-- a word is read -/
theorem sl_get {w : World} {a : Option Addr} {ws : List (BitVec 32)} (h : Sl u32v w a ws) (i : Int) (k : Nat) (e : i = (k : Int)) (hn : k < ws.length) :
    ∃ b o, a = some ⟨b, o, none⟩ ∧ (0 ≤ i ∧ i < (ws.length : Int)) ∧ w.cell? ⟨b, o + i.toNat, none⟩ = some (.int .u32 ((ws.getD k 0#32).toNat : Int)) := by
  have g := h.at i (by omega) (by omega)
  obtain ⟨b, o, ha, hc⟩ := g
  refine ⟨b, o, ha, ⟨by omega, by omega⟩, ?_⟩
  rw [hc, show i.toNat = k by omega]
  rfl

/-- a slice of a slice -/
def SubSl (a : Option Addr) (ws : List (BitVec 32)) (b : Option Addr) (xs : List (BitVec 32)) : Prop := ∀ w0 : World, Sl u32v w0 a ws → Sl u32v w0 b xs
/-- the part of a sector where a record stands -/
def OnePost (a0 : Option Addr) (ws : List (BitVec 32)) (at_ : Nat) (w : World) (v : Value) (w' : World) : Prop :=
  ((oneB (ws.drop at_) ∧ ∃ a c, v = .tuple #[.int .u32 (numB (ws.drop at_)).toNat, .slice a (recB (ws.drop at_)).length c] ∧ SubSl a0 ws a (recB (ws.drop at_))) ∨
    (¬ oneB (ws.drop at_) ∧ v = .tuple #[.int .u32 0, .slice none 0 0])) ∧ Ext w w'

theorem recB_len {h : List (BitVec 32)} (hn : sizeB h + 4 ≤ h.length) : (recB h).length = sizeB h := by
  unfold recB
  rw [List.length_take, List.length_drop]; omega

set_option maxHeartbeats 1000000 in
theorem one_calls {w : World} {a : Option Addr} {c : Nat} {ws : List (BitVec 32)} (h : Sl u32v w a ws) (hl : ws.length ≤ 1048576) (hc : ws.length ≤ c) (hcm : c ≤ 9223372036854775807) (at_ : Nat) (hat : at_ ≤ ws.length) :
    Calls Try.prog 185 #[.slice a ws.length c, .int .i64 at_] w (Ret (OnePost a ws at_ w)) := by
  have hdl : (ws.drop at_).length = ws.length - at_ := List.length_drop
  refine calls_of_vc lok Try.func185 ?_ rfl
  conv => whnf
  refine ⟨by omega, ?_⟩
  conv => whnf
  refine vcCond_split lok rfl (fun h1 => ?_) (fun h1 => ?_)
  · have h1 := dt h1
    conv => whnf
    exact ⟨.inr ⟨fun q => by have := q.1.1; omega, rfl⟩, Ext.refl _⟩
  have h1 := df h1
  conv => whnf
  have g20 := sl_rd (h) ((at_ : Int)) (at_) (0) (by omega) (by omega)
  obtain ⟨p20, o20, ha20, hb20, hcell20⟩ := g20
  refine ⟨p20, o20, ha20, hb20, ?_⟩
  conv => whnf
  refine ⟨_, hcell20, ?_⟩
  conv => whnf
  refine ⟨by omega, ?_⟩
  conv => whnf
  have g22 := sl_rd (h) ((at_ : Int) + 1) (at_) (1) (by omega) (by omega)
  obtain ⟨p22, o22, ha22, hb22, hcell22⟩ := g22
  refine ⟨p22, o22, ha22, hb22, ?_⟩
  conv => whnf
  refine ⟨_, hcell22, ?_⟩
  conv => whnf
  have hlt := ((ws.drop at_).getD 1 0#32).isLt
  intro z hz
  have hz23 : z = (sizeB (ws.drop at_) : Int) := by rw [hz]; exact wi64k (by omega)
  clear hz
  subst hz23
  conv => whnf
  have eN : numB (ws.drop at_) = (ws.drop at_).getD 0 0#32 := rfl
  have hsz : sizeB (ws.drop at_) < 4294967296 := hlt
  have eI := @laid_iff (ws.drop at_)
  have ePre : preB (ws.drop at_) ↔ (5 ≤ (ws.drop at_).length ∧ (1 ≤ (numB (ws.drop at_)).toNat ∧ (numB (ws.drop at_)).toNat ≤ 2147483647) ∧ 1 ≤ sizeB (ws.drop at_) ∧ sizeB (ws.drop at_) ≤ 64 ∧ sizeB (ws.drop at_) + 4 ≤ (ws.drop at_).length) := Iff.rfl
  rw [← eN]
  refine vcReg_meet lok (fun β : Bool => [(46, .bool β)]) (fun β w' => w' = w ∧ β = !decide (preB (ws.drop at_))) [46] (fun _ => rfl) rfl ?_ ?_
  · generalize sizeB (ws.drop at_) = n at *
    generalize numB (ws.drop at_) = q at *
    conv => whnf
    refine bcase (fun k1 => ?_) (fun k1 => ?_)
    · have k1 := dt k1
      conv => whnf
      exact ⟨_, ⟨rfl, trivial⟩, rfl, by rw [eq_comm, Bool.not_eq_true', decide_eq_false_iff_not, ePre]; omega⟩
    have k1 := df k1
    conv => whnf
    refine bcase (fun k2 => ?_) (fun k2 => ?_)
    · have k2 := dt k2
      conv => whnf
      exact ⟨_, ⟨rfl, trivial⟩, rfl, by rw [eq_comm, Bool.not_eq_true', decide_eq_false_iff_not, ePre]; omega⟩
    have k2 := df k2
    conv => whnf
    refine bcase (fun k3 => ?_) (fun k3 => ?_)
    · have k3 := dt k3
      conv => whnf
      exact ⟨_, ⟨rfl, trivial⟩, rfl, by rw [eq_comm, Bool.not_eq_true', decide_eq_false_iff_not, ePre]; omega⟩
    have k3 := df k3
    conv => whnf
    refine bcase (fun k4 => ?_) (fun k4 => ?_)
    · have k4 := dt k4
      conv => whnf
      exact ⟨_, ⟨rfl, trivial⟩, rfl, by rw [eq_comm, Bool.not_eq_true', decide_eq_false_iff_not, ePre]; omega⟩
    have k4 := df k4
    conv => whnf
    refine ⟨by omega, ?_⟩
    conv => whnf
    refine ⟨by omega, ?_⟩
    conv => whnf
    refine ⟨_, ⟨rfl, trivial⟩, rfl, ?_⟩
    by_cases k5 : n + 4 ≤ (ws.drop at_).length
    · rw [decide_eq_false (by omega), decide_eq_true (ePre.2 (by omega))]; rfl
    · rw [decide_eq_true (by omega), decide_eq_false (fun q => k5 (ePre.1 q).2.2.2.2)]; rfl
  rintro β w1 ⟨hw1, hβ⟩
  subst hw1
  conv => whnf
  refine vcCond_split lok rfl (fun h2 => ?_) (fun h2 => ?_)
  · rw [h2] at hβ
    have hno : ¬ preB (ws.drop at_) := by
      intro q
      rw [decide_eq_true q] at hβ
      cases hβ
    conv => whnf
    exact ⟨.inr ⟨fun q => hno q.1, rfl⟩, Ext.refl _⟩
  rw [h2] at hβ
  have hpre : preB (ws.drop at_) := by
    by_cases q : preB (ws.drop at_)
    · exact q
    · rw [decide_eq_false q] at hβ; cases hβ
  clear hβ
  have hp := ePre.1 hpre
  have eRec : recB (ws.drop at_) = (ws.drop (at_ + 2)).take (sizeB (ws.drop at_)) := by unfold recB; rw [List.drop_drop]
  have eRl := recB_len hp.2.2.2.2
  have eOne : oneB (ws.drop at_) ↔ (ws.drop at_).take (sizeB (ws.drop at_) + 4) = laidF (numB (ws.drop at_)) (recB (ws.drop at_)) := ⟨fun q => q.2, fun q => ⟨hpre, q⟩⟩
  have eTl : ((ws.drop at_).take (sizeB (ws.drop at_) + 4)).length = sizeB (ws.drop at_) + 4 := by rw [List.length_take]; omega
  have hsl := Sl.mid h (at_ + 2) (at_ + 2 + sizeB (ws.drop at_)) c (by omega) (by omega) hc
  rw [show at_ + 2 + sizeB (ws.drop at_) - (at_ + 2) = sizeB (ws.drop at_) by omega, ← eRec] at hsl
  have hsl2 := Sl.mid h at_ (at_ + (sizeB (ws.drop at_) + 4)) c (by omega) (by omega) hc
  rw [show at_ + (sizeB (ws.drop at_) + 4) - at_ = sizeB (ws.drop at_) + 4 by omega] at hsl2
  generalize hq : sizeB (ws.drop at_) = n at *
  generalize hq0 : numB (ws.drop at_) = q at *
  generalize hr0 : recB (ws.drop at_) = rec at *
  generalize (ws.drop at_).take (n + 4) = tk at *
  conv => whnf
  refine ⟨by omega, ?_⟩
  conv => whnf
  refine ⟨by omega, ?_⟩
  conv => whnf
  refine ⟨by omega, ?_⟩
  conv => whnf
  refine ⟨⟨by omega, by omega, by omega⟩, ?_⟩
  intro b hb
  have e1 : ((at_ : Int) + 2).toNat = at_ + 2 := by omega
  have e2 : ((at_ : Int) + 2 + (n : Int)).toNat - ((at_ : Int) + 2).toNat = rec.length := by omega
  rw [e1] at hb
  rw [← hb] at hsl
  rw [e2]
  clear hb
  conv => whnf
  refine Calls.ret (rlaid_calls q hsl (by omega)) ?_
  rintro _ w2 ⟨a2, c2, rfl, ho2, x2⟩
  conv => whnf
  refine ⟨by omega, ?_⟩
  conv => whnf
  refine ⟨by omega, ?_⟩
  conv => whnf
  refine ⟨⟨by omega, by omega, by omega⟩, ?_⟩
  intro b3 hb3
  have e3 : ((at_ : Int) + (n : Int) + 4).toNat - (at_ : Int).toNat = tk.length := by omega
  rw [e3]
  rw [Int.toNat_natCast] at hb3
  rw [← hb3] at hsl2
  clear hb3
  conv => whnf
  refine Calls.ret (same_calls ho2.sl (hsl2.ext x2) (by rw [laidF_len]; omega)) ?_
  rintro _ w3 ⟨rfl, x3⟩
  conv => whnf
  have x13 := x2.trans x3
  by_cases hone : oneB (ws.drop at_)
  · have e := eOne.1 hone
    refine vcCond_false lok ((by rw [decide_eq_true e.symm]; rfl)) ?_
    conv => whnf
    refine vcDraw_go lok mixed (fun _ => True) [] [0, 1, 2, 3, 4, 5, 6, 7, 8, 9, 10] (by kernel_rfl) (fun w4 hw4 => ⟨trivial, ?_⟩)
    have x4 : Ext w3 w4 := hw4 ▸ Ext.drew w3
    have x14 := x13.trans x4
    clear hw4
    conv => whnf
    refine ⟨by omega, ?_⟩
    conv => whnf
    refine ⟨by omega, ?_⟩
    conv => whnf
    refine ⟨by omega, ?_⟩
    conv => whnf
    refine ⟨⟨by omega, by omega, by omega⟩, ?_⟩
    intro b4 hb4
    have e5 : ((at_ : Int) + 2 + (n : Int)).toNat - ((at_ : Int) + 2).toNat = rec.length := by omega
    have hsl4 : SubSl a ws b4 rec := fun w0 h0 => by
      have g := Sl.mid h0 (at_ + 2) (at_ + 2 + n) c (by omega) (by omega) hc
      rw [show at_ + 2 + n - (at_ + 2) = n by omega, ← eRec] at g
      rw [hb4, e1]
      exact g
    rw [e5]
    clear hb4
    exact ⟨.inl ⟨hone, b4, _, by rw [hq0, hr0], by rw [hr0]; exact hsl4⟩, x14⟩
  · refine vcCond_true lok ((by rw [decide_eq_false (fun e => hone (eOne.2 e.symm))]; rfl)) ?_
    conv => whnf
    exact ⟨.inr ⟨hone, rfl⟩, x13⟩

/-- a sector's words (the reference) -/
theorem secs_calls {B : Nat} {w : World} {g gw c : Nat} {s : FS} (h : FlAt 81 B w g gw c s) (hl : s.ws.length ≤ 1048576) (n : Nat) (hn : 256 * (n + 1) ≤ s.ws.length) :
    Calls Try.prog 169 #[.pointer (some ⟨g, 0, none⟩), .int .i64 n] w (Ret fun v w' => ∃ a, v = .slice a (secF s.ws n).length (c - 256 * n) ∧ SubSl (some ⟨gw, 0, none⟩) s.ws a (secF s.ws n) ∧ w' = w) := by
  have hc := h.own.le
  have el : (secF s.ws n).length = 256 := by unfold secF; rw [List.length_take, List.length_drop]; omega
  refine calls_of_vc lok Try.func169 ?_ rfl
  conv => whnf
  refine ⟨_, h.blk.cell0 rfl, ?_⟩
  conv => whnf
  refine ⟨by omega, ?_⟩
  conv => whnf
  refine ⟨by omega, ?_⟩
  conv => whnf
  refine ⟨by omega, ?_⟩
  conv => whnf
  refine ⟨⟨by omega, by omega, by omega⟩, ?_⟩
  intro a ha
  have e1 : ((n : Int) * 256).toNat = 256 * n := by omega
  have e2 : ((n : Int) * 256 + 256).toNat - ((n : Int) * 256).toNat = (secF s.ws n).length := by omega
  rw [e1] at ha
  rw [e2, e1]
  refine ⟨a, rfl, fun w0 h0 => ?_, rfl⟩
  have hsl := Sl.mid h0 (256 * n) (256 * (n + 1)) c (by omega) (by omega) hc.1
  rw [← ha, show 256 * (n + 1) - 256 * n = 256 by omega] at hsl
  exact hsl

theorem add1 (x : BitVec 32) (h : x.toNat ≤ 2147483647) : ((x + 1#32).toNat : Int) = (x.toNat : Int) + 1 := by
  rw [BitVec.toNat_add]
  simp
  omega
theorem num_zero {x : BitVec 32} : (x.toNat : Int) = 0 ↔ x = 0#32 := int_eq (x := x) (y := 0#32)

theorem clean_step (ws : List (BitVec 32)) (i j : Nat) (hi : i ≤ j) (hj : j < ws.length) : cleanF ((ws.drop i).take (j + 1 - i)) = (cleanF ((ws.drop i).take (j - i)) && decide (ws.getD j 0#32 = ones)) := by
  unfold cleanF
  rw [show j + 1 - i = (j - i) + 1 by omega, List.take_add_one, List.getElem?_drop, show i + (j - i) = j by omega, List.getElem?_eq_getElem hj]
  simp [List.getD, List.getElem?_eq_getElem hj]

/-- what Walk tells -/
def WalkPost (a0 : Option Addr) (ws : List (BitVec 32)) (w : World) (v : Value) (w' : World) : Prop :=
  ∃ a c, v = .tuple #[.int .u32 (tellF ws).number.toNat, .slice a (tellF ws).words.length c, .int .i64 (tellF ws).end_, .bool (tellF ws).clean] ∧ SubSl a0 ws a (tellF ws).words ∧ Ext w w'

theorem ones_eq {x : BitVec 32} : (x.toNat : Int) = 4294967295 ↔ x = ones := int_eq (x := x) (y := ones)

set_option maxHeartbeats 1000000 in
theorem rwalk_calls {w : World} {a : Option Addr} {c : Nat} {ws : List (BitVec 32)} (h : Sl u32v w a ws) (hl : ws.length ≤ 65536) (hc : ws.length ≤ c) (hcm : c ≤ 9223372036854775807) :
    Calls Try.prog 168 #[.slice a ws.length c] w (Ret (WalkPost a ws w)) := by
  refine calls_of_vc lok Try.func168 ?_ rfl
  conv => whnf
  refine vcLoop_inv lok (σ := Nat × BitVec 32 × List (BitVec 32) × Option Addr × Nat)
    (fun ⟨at_, p, rec, ra, rc⟩ => [(8, .int .i64 at_), (6, .int .u32 p.toNat), (7, .slice ra rec.length rc), (0, .slice a ws.length c)])
    (fun ⟨at_, p, rec, ra, rc⟩ w1 => at_ ≤ ws.length ∧ p.toNat ≤ 2147483647 ∧ SubSl a ws ra rec ∧ goF ws 0 0#32 [] = goF ws at_ p rec ∧ Ext w w1) (fun t => ws.length - t.1)
    (0, 0#32, [], none, 0) ⟨rfl, rfl, rfl, rfl, trivial⟩ ⟨Nat.zero_le _, by decide, fun _ _ => .inl rfl, rfl, Ext.refl _⟩ ?_
  rintro ⟨at_, p, rec, ra, rc⟩ w1 ⟨hat, hp, hrec, hgo, x1⟩
  conv => whnf
  refine Calls.ret (one_calls (h.ext x1) (by omega) hc hcm at_ hat) ?_
  rintro v w2 ⟨hone, x2⟩
  conv => whnf
  have x02 := x1.trans x2
  have hone2 : ∃ q a2 r c2, v = .tuple #[.int .u32 (q : BitVec 32).toNat, .slice a2 r.length c2] ∧ ((oneB (ws.drop at_) ∧ q = numB (ws.drop at_) ∧ r = recB (ws.drop at_) ∧ SubSl a ws a2 r) ∨ (¬ oneB (ws.drop at_) ∧ q = 0#32)) := by
    rcases hone with ⟨h1, a2, c2, e, h2⟩ | ⟨h1, e⟩
    · exact ⟨_, a2, _, c2, e, .inl ⟨h1, rfl, rfl, h2⟩⟩
    · exact ⟨0#32, none, [], 0, e, .inr ⟨h1, rfl⟩⟩
  clear hone
  obtain ⟨q, a2, r, c2, rfl, hone⟩ := hone2
  conv => whnf
  refine vcReg_meet lok (fun β : Bool => [(30, .bool β)]) (fun β w' => w' = w2 ∧ β = !decide (goodB (ws.drop at_) p)) [30] (fun _ => rfl) rfl ?_ ?_
  · have hq0 : (q = 0#32) ↔ ¬ oneB (ws.drop at_) := by
      rcases hone with ⟨h1, h2, _⟩ | ⟨h1, h2⟩
      · refine ⟨fun e => ?_, fun e => absurd h1 e⟩
        have := h1.1.2.1.1
        rw [← h2, e] at this
        exact absurd this (by decide)
      · exact ⟨fun _ => h1, fun _ => h2⟩
    conv => whnf
    refine bcase (fun k1 => ?_) (fun k1 => ?_)
    · have k1 := dt k1
      conv => whnf
      exact ⟨_, ⟨rfl, trivial⟩, rfl, by rw [decide_eq_false (fun g => (hq0.1 (num_zero.1 k1)) g.1)]; rfl⟩
    have k1 := df k1
    have hyes : oneB (ws.drop at_) := Decidable.byContradiction fun g => k1 (num_zero.2 (hq0.2 g))
    have hqn : q = numB (ws.drop at_) := by
      rcases hone with ⟨h1, h2, _⟩ | ⟨h1, h2⟩
      · exact h2
      · exact absurd hyes h1
    conv => whnf
    refine bcase (fun k2 => ?_) (fun k2 => ?_)
    · have k2 := ne_true k2
      conv => whnf
      intro z hz
      have hz67 : z = ((p + 1#32).toNat : Int) := by rw [hz, wu32, add1 p hp]; omega
      clear hz
      subst hz67
      conv => whnf
      refine ⟨_, ⟨rfl, trivial⟩, rfl, ?_⟩
      congr 1
      rw [decide_eq_decide, hqn]
      refine Iff.trans int_eq ⟨fun e => ⟨hyes, .inr e⟩, fun g => ?_⟩
      rcases g.2 with e | e
      · exact absurd (num_zero.2 e) k2
      · exact e
    · have k2 := ne_false k2
      conv => whnf
      refine ⟨_, ⟨rfl, trivial⟩, rfl, ?_⟩
      rw [decide_eq_true ⟨hyes, .inl (num_zero.1 k2)⟩]; rfl
  rintro β w3 ⟨hw3, hβ⟩
  subst hw3
  conv => whnf
  refine vcCond_split lok rfl (fun h2 => ?_) (fun h2 => ?_)
  · rw [h2] at hβ
    have hno : ¬ goodB (ws.drop at_) p := by
      intro g
      rw [decide_eq_true g] at hβ
      cases hβ
    have hst := goF_stop (w := ws) (at_ := at_) (prev := p) (rec := rec) hno
    rw [hst] at hgo
    conv => whnf
    refine vcLoop_inv lok (σ := Nat)
      (fun i => [(12, .int .i64 i), (11, .bool (cleanF ((ws.drop at_).take (i - at_)))), (0, .slice a ws.length c), (6, .int .u32 p.toNat), (7, .slice ra rec.length rc), (8, .int .i64 at_)])
      (fun i w4 => at_ ≤ i ∧ i ≤ ws.length ∧ w4 = w3) (fun i => ws.length - i)
      at_ ⟨rfl, by rw [Nat.sub_self]; rfl, rfl, rfl, rfl, rfl, trivial⟩ ⟨Nat.le_refl _, hat, rfl⟩ ?_
    rintro i w4 ⟨hi1, hi2, hw4⟩
    subst hw4
    conv => whnf
    refine vcCond_split lok rfl (fun h3 => ?_) (fun h3 => ?_)
    · have h3 := dt h3
      conv => whnf
      have hil : i < ws.length := by omega
      refine vcReg_meet lok (fun β : Bool => [(11, .bool β)]) (fun β w' => w' = w4 ∧ β = cleanF ((ws.drop at_).take (i + 1 - at_))) [11] (fun _ => rfl) rfl ?_ ?_
      · conv => whnf
        refine bcase (fun k => ?_) (fun k => ?_)
        · conv => whnf
          have g77 := sl_rd ((h.ext x02)) ((i : Int)) (i) (0) (by omega) (by omega)
          obtain ⟨p77, o77, ha77, hb77, hcell77⟩ := g77
          refine ⟨p77, o77, ha77, hb77, ?_⟩
          conv => whnf
          refine ⟨_, hcell77, ?_⟩
          conv => whnf
          refine ⟨_, ⟨rfl, trivial⟩, rfl, ?_⟩
          rw [clean_step ws at_ i hi1 hil, k, Bool.true_and, drop_get0, decide_eq_decide]
          exact ones_eq
        · conv => whnf
          refine ⟨_, ⟨rfl, trivial⟩, rfl, ?_⟩
          rw [clean_step ws at_ i hi1 hil, k, Bool.false_and]
      rintro β5 w5 ⟨hw5, hβ5⟩
      subst hw5
      subst hβ5
      conv => whnf
      refine ⟨by omega, ?_⟩
      conv => whnf
      exact ⟨i + 1, ⟨rfl, rfl, rfl, rfl, rfl, rfl, trivial⟩, ⟨by omega, by omega, rfl⟩, by omega⟩
    · have h3 := df h3
      conv => whnf
      have hil : i = ws.length := by omega
      have e : tellF ws = ⟨p, rec, at_, cleanF (ws.drop at_)⟩ := by unfold tellF; rw [hgo]
      rw [e, List.take_of_length_le (by rw [List.length_drop]; omega)]
      exact ⟨ra, rc, rfl, hrec, x02⟩
  · rw [h2] at hβ
    have hg : goodB (ws.drop at_) p := by
      by_cases g : goodB (ws.drop at_) p
      · exact g
      · rw [decide_eq_false g] at hβ; cases hβ
    rcases hone with ⟨_, eq, er, hs2⟩ | ⟨g, _⟩
    rotate_left
    · exact absurd hg.1 g
    obtain ⟨q1, ⟨q2, q3⟩, q4, q5, q6⟩ := hg.1.1
    have eRl := recB_len q6
    rw [← er] at eRl
    have hgo2 := goF_good (w := ws) (at_ := at_) (prev := p) (rec := rec) hg
    rw [← eRl, ← eq, ← er] at hgo2
    rw [List.length_drop, ← eRl] at q6
    rw [← eq] at q2 q3
    conv => whnf
    refine ⟨by omega, ?_⟩
    conv => whnf
    refine ⟨by omega, ?_⟩
    conv => whnf
    exact ⟨(at_ + (r.length + 4), q, r, a2, c2), ⟨by congr 2, rfl, rfl, rfl, trivial⟩, ⟨by omega, q3, hs2, hgo.trans hgo2, x02⟩, by show ws.length - (at_ + (r.length + 4)) < ws.length - at_; omega⟩
end Go.Proofs.Ytgipackjnncabaa
