/- Layer 22: images and their chunks; the law SlotsBack, walked. -/
import Derived.Test.YtgipackjnncabaaL22a
import Derived.Test.YtgipackjnncabaaFr
set_option linter.unusedVariables false
namespace Go.Proofs.Ytgipackjnncabaa
open Go.Vc Go.RowKit

theorem wf_u16 {n : Int} (h : (Lit.int .u16 n).wf = true) : ∃ m : Nat, n = m ∧ m ≤ 65535 := by
  obtain ⟨h1, h2⟩ := wf_le h
  simp [IntKind.min, IntKind.max, IntKind.signed, IntKind.bits] at h1 h2
  exact ⟨n.toNat, by omega, by omega⟩
theorem rem_nat (n m : Nat) : ((n : Int)).tmod (m : Int) = ((n % m : Nat) : Int) := by rw [Int.ofNat_tmod]
theorem quo_nat (n m : Nat) : ((n : Int)).tdiv (m : Int) = ((n / m : Nat) : Int) := by rw [Int.ofNat_tdiv]
theorem run_byte (w : World) (x : BitVec 8) : ∃ w', (Instr.buildSlice 22 1 #[(0, u8v x)]).run Try.prog w = .ok (.slice (some ⟨w.heap.size, 0, none⟩) 1 1) w' ∧ Sl u8v w' (some ⟨w.heap.size, 0, none⟩) [x] ∧ Ext w w' := by
  have g := run_buildN (P := Try.prog) (t := 22) (e := 5) e8.toElem [u8v x] (by simp [u8v, Value.oneCell']) (by simp) w
  exact ⟨_, g, Sl.lit (f := u8v) [x] w, Ext.new _ _⟩

/-- Long (the reference's) -/
theorem rlong_calls {w : World} (m : Nat) (hm : m ≤ 2048) (k : Int) (hk : -9223372036854775808 ≤ k ∧ k ≤ 9223372036854775807) :
    Calls Try.prog 176 #[.int .i64 m, .int .i64 k] w (Ret fun v w' => v = .int .i64 (if 0 ≤ k ∧ k < 32 ∧ 64 * k < m then (lenC m k.toNat : Int) else 0) ∧ w' = w) := by
  refine calls_of_vc lok Try.func176 ?_ rfl
  conv => whnf
  refine vcReg_meet lok (fun β : Bool => [(16, .bool β)]) (fun β w' => w' = w ∧ β = !decide (0 ≤ k ∧ k < 32 ∧ 64 * k < m)) [16] (fun _ => rfl) rfl ?_ ?_
  · conv => whnf
    refine bcase (fun h1 => ?_) (fun h1 => ?_)
    · have h1 := dt h1
      conv => whnf
      exact ⟨_, ⟨rfl, trivial⟩, rfl, by rw [decide_eq_false (by omega)]; rfl⟩
    have h1 := df h1
    conv => whnf
    refine bcase (fun h2 => ?_) (fun h2 => ?_)
    · have h2 := dt h2
      conv => whnf
      exact ⟨_, ⟨rfl, trivial⟩, rfl, by rw [decide_eq_false (by omega)]; rfl⟩
    have h2 := df h2
    conv => whnf
    refine ⟨by omega, ?_⟩
    conv => whnf
    refine ⟨_, ⟨rfl, trivial⟩, rfl, ?_⟩
    by_cases h3 : 64 * k < m
    · rw [decide_eq_false (by omega), decide_eq_true ⟨by omega, by omega, h3⟩]; rfl
    · rw [decide_eq_true (by omega), decide_eq_false (fun q => h3 q.2.2)]; rfl
  rintro β w1 ⟨hw1, hβ⟩
  subst hw1
  conv => whnf
  refine vcCond_split lok rfl (fun h1 => ?_) (fun h1 => ?_)
  · rw [h1] at hβ
    have hn : ¬ (0 ≤ k ∧ k < 32 ∧ 64 * k < m) := fun q => by rw [decide_eq_true q] at hβ; cases hβ
    rw [if_neg hn]
    conv => whnf
    exact ⟨rfl, rfl⟩
  rw [h1] at hβ
  have hy : 0 ≤ k ∧ k < 32 ∧ 64 * k < m := by
    by_cases q : 0 ≤ k ∧ k < 32 ∧ 64 * k < m
    · exact q
    · rw [decide_eq_false q] at hβ; cases hβ
  rw [if_pos hy]
  conv => whnf
  refine ⟨by omega, ?_⟩
  conv => whnf
  refine ⟨by omega, ?_⟩
  conv => whnf
  refine vcCond_split lok rfl (fun h2 => ?_) (fun h2 => ?_)
  · have h2 := dt h2
    conv => whnf
    refine ⟨by omega, ?_⟩
    conv => whnf
    refine ⟨by omega, ?_⟩
    conv => whnf
    refine ⟨?_, rfl⟩
    congr 1
    unfold lenC
    omega
  · have h2 := df h2
    conv => whnf
    refine ⟨?_, rfl⟩
    congr 1
    unfold lenC
    omega

/-- chunk -/
theorem lchunk_calls {w : World} {a : Option Addr} {c : Nat} {xs : List (BitVec 8)} (h : Sl u8v w a xs) (hl : xs.length ≤ 2048) (hc : xs.length ≤ c) (hcm : c ≤ 9223372036854775807) (k : Nat) (hk : 64 * k < xs.length) :
    Calls Try.prog 126 #[.slice a xs.length c, .int .i64 k] w (Ret fun v w' => ∃ a' c', v = .slice a' (chunkF xs k).length c' ∧ Sl u8v w' a' (chunkF xs k) ∧ w' = w) := by
  have hcl := chunkF_len xs k
  have hlc : lenC xs.length k ≤ 64 ∧ 64 * k + lenC xs.length k ≤ xs.length := by unfold lenC; omega
  refine calls_of_vc lok Try.func126 ?_ rfl
  conv => whnf
  refine ⟨by omega, ?_⟩
  conv => whnf
  refine ⟨by omega, ?_⟩
  conv => whnf
  refine Calls.ret (rlong_calls xs.length hl k (by omega)) ?_
  rintro _ w1 ⟨rfl, hw1⟩
  conv => whnf
  subst hw1
  rw [if_pos (by omega), Int.toNat_natCast]
  refine ⟨by omega, ?_⟩
  conv => whnf
  refine ⟨⟨by omega, by omega, by omega⟩, ?_⟩
  intro b hb
  have e1 : (64 * (k : Int)).toNat = 64 * k := by omega
  have e2 : (64 * (k : Int) + (lenC xs.length k : Int)).toNat - (64 * (k : Int)).toNat = (chunkF xs k).length := by omega
  have hsl := Sl.mid h (64 * k) (64 * k + lenC xs.length k) c (by omega) (by omega) hc
  have e3 : (xs.drop (64 * k)).take (64 * k + lenC xs.length k - 64 * k) = chunkF xs k := by
    unfold chunkF lenC
    rw [show 64 * k + min 64 (xs.length - 64 * k) - 64 * k = min 64 (xs.length - 64 * k) by omega]
    by_cases q : 64 ≤ xs.length - 64 * k
    · rw [Nat.min_eq_left q]
    · rw [Nat.min_eq_right (by omega), List.take_of_length_le (by rw [List.length_drop]; omega), List.take_of_length_le (by rw [List.length_drop]; omega)]
  rw [e3] at hsl
  rw [e1] at hb
  rw [← hb] at hsl
  rw [e2]
  exact ⟨b, _, rfl, hsl, rfl⟩

set_option maxHeartbeats 1000000 in
/-- image -/
theorem image_calls {w : World} {a : Option Addr} {c : Nat} {bs : List (BitVec 8)} (h : Sl u8v w a bs) (hl : bs.length ≤ 9223372036854775807) (n : Nat) (hn : n ≤ 2048) :
    Calls Try.prog 123 #[.slice a bs.length c, .int .i64 n] w (Ret fun v w' => ∃ a' c' xs, v = .slice a' n c' ∧ xs.length = n ∧ Own 5 u8v w.heap.size w' a' c' xs ∧ Ext w w') := by
  refine calls_of_vc lok Try.func123 ?_ rfl
  conv => whnf
  refine vcLoop_inv lok (σ := Nat × Option Addr × Nat × List (BitVec 8))
    (fun ⟨i, ra, rc, xs⟩ => [(6, .int .i64 i), (5, .slice ra xs.length rc), (0, .slice a bs.length c), (1, .int .i64 n)])
    (fun ⟨i, ra, rc, xs⟩ w' => i ≤ n ∧ xs.length = i ∧ Own 5 u8v w.heap.size w' ra rc xs ∧ Ext w w') (fun t => n - t.1)
    (0, none, 0, []) ⟨rfl, rfl, rfl, rfl, trivial⟩ ⟨Nat.zero_le _, rfl, Own.nil _ _ _ _, Ext.refl _⟩ ?_
  rintro ⟨i, ra, rc, xs⟩ w1 ⟨hi, hxl, ho1, x1⟩
  conv => whnf
  refine vcCond_split lok rfl (fun h2 => ?_) (fun h2 => ?_)
  · have h2 := dt h2
    conv => whnf
    refine ⟨by omega, ?_⟩
    conv => whnf
    intro z hz
    have gz : ∃ y : BitVec 8, z = (y.toNat : Int) := ⟨BitVec.ofInt 8 z, by rw [hz, wu8]; simp; omega⟩
    obtain ⟨y, hy⟩ := gz
    clear hz
    subst hy
    conv => whnf
    refine vcCond_meet (fun y : BitVec 8 => [(7, .int .u8 y.toNat), (6, .int .i64 i), (5, .slice ra xs.length rc), (0, .slice a bs.length c), (1, .int .i64 n)]) (fun y w' => Ext w1 w') ?_ ?_
    · refine vcCond_split lok rfl (fun h3 => ?_) (fun h3 => ?_)
      · have h3 := dt h3
        conv => whnf
        refine vcDraw_go lok mixed (fun w' => w' = w1.drew) [] [0, 1, 2, 3, 4, 5, 6, 7, 8, 9, 10, 11, 12, 13] (by kernel_rfl) (fun w2 hw2 => ⟨hw2, ?_⟩)
        have x2 : Ext w1 w2 := hw2 ▸ Ext.drew w1
        have hs2 := (h.ext x1).ext x2
        conv => whnf
        refine ⟨by omega, ?_⟩
        intro z hz
        have hz33 : z = ((i % bs.length : Nat) : Int) := by rw [hz]; exact rem_nat i bs.length
        clear hz
        subst hz33
        conv => whnf
        have hix : i % bs.length < bs.length := Nat.mod_lt _ (by omega)
        have g4 := hs2.at ((i % bs.length : Nat) : Int) (by omega) (by omega)
        obtain ⟨p4, o4, ha4, hc4⟩ := g4
        refine ⟨p4, o4, ha4, ⟨by omega, by omega⟩, ?_⟩
        conv => whnf
        refine ⟨_, fun w' hw' => by rw [hw', ← hw2]; exact hc4, ?_⟩
        generalize bs.getD ((i % bs.length : Nat) : Int).toNat default = v at *
        conv => whnf
        refine ⟨by omega, ?_⟩
        have hq : i / bs.length ≤ i := Nat.div_le_self _ _
        intro z hz
        have hz36 : z = ((i / bs.length : Nat) : Int) := by rw [hz, quo_nat]; generalize i / bs.length = qq at *; exact wi64 (by omega)
        clear hz
        subst hz36
        conv => whnf
        intro z hz
        clear hz
        conv => whnf
        intro z2 hz2
        have gz : ∃ y : BitVec 8, z2 = (y.toNat : Int) := ⟨BitVec.ofInt 8 z2, by rw [hz2, wu8]; simp; omega⟩
        obtain ⟨y2, hy2⟩ := gz
        clear hz2
        subst hy2
        exact ⟨y2, ⟨rfl, rfl, rfl, rfl, rfl, trivial⟩, x2⟩
      · conv => whnf
        exact ⟨y, ⟨rfl, rfl, rfl, rfl, rfl, trivial⟩, Ext.refl _⟩
    rintro y3 w3 x3
    conv => whnf
    have g6 := run_byte w3 y3
    obtain ⟨w6, hr6, hs6, x6⟩ := g6
    refine ⟨_, _, hr6, ?_⟩
    conv => whnf
    have z1 := x1.size
    have z3 := x3.size
    have z6 := x6.size
    have g7 := ((ho1.ext x3).ext x6).append (ty := 22) (d := 1) e8.toElem (fun _ => rfl) hs6 (by simp; omega) (by omega)
    obtain ⟨a7, c7, w7, hr7, ho7, hg7, _⟩ := g7
    refine ⟨_, _, hr7, ?_⟩
    have x7 : Ext w w7 := hg7.extOf (x1.trans (x3.trans x6)) (fun g hg => (ho1.ge g hg).1)
    have el : (xs ++ [y3]).length = i + 1 := by rw [List.length_append, hxl]; rfl
    have gy : ∃ ys, ys = xs ++ [y3] := ⟨_, rfl⟩
    obtain ⟨ys, hys⟩ := gy
    rw [← hys] at ho7 el ⊢
    conv => whnf
    refine ⟨by omega, ?_⟩
    conv => whnf
    exact ⟨(i + 1, a7, c7, ys), ⟨rfl, rfl, rfl, rfl, trivial⟩, ⟨by omega, el, ho7, x7⟩, by show n - (i + 1) < n - i; omega⟩
  · have h2 := df h2
    conv => whnf
    have hin : i = n := by omega
    subst hin
    exact ⟨ra, rc, xs, by rw [hxl], hxl, ho1, x1⟩
end Go.Proofs.Ytgipackjnncabaa
