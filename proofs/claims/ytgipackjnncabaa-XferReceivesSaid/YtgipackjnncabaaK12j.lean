/- Own texts of this claim, joined: L22b, L22c, W22g, W22h, W22i, W02f, W22j, W22k. -/
import Derived.Test.YtgipackjnncabaaK12i

/- Layer 22: images and their chunks; the law SlotsBack, walked. -/
set_option linter.unusedVariables false
namespace Go.Proofs.Ytgipackjnncabaa
open Go.Vc Go.RowKit

theorem wf_u16 {n : Int} (h : (Lit.int .u16 n).wf = true) : ∃ m : Nat, n = m ∧ m ≤ 65535 := by
  obtain ⟨h1, h2⟩ := wf_le h
  simp [IntKind.min, IntKind.max, IntKind.signed, IntKind.bits] at h1 h2
  exact ⟨n.toNat, by omega, by omega⟩
theorem rem_nat (n m : Nat) : ((n : Int)).tmod (m : Int) = ((n % m : Nat) : Int) := by rw [Int.ofNat_tmod]
theorem quo_nat (n m : Nat) : ((n : Int)).tdiv (m : Int) = ((n / m : Nat) : Int) := by rw [Int.ofNat_tdiv]
theorem run_byte (w : World) (x : BitVec 8) : ∃ w', (Instr.buildSlice 22 1 #[(0, u8v x)]).run Try.prog w = .ok (.slice (some ⟨w.heap.size, 0, none⟩) 1 1) w' ∧ Sl u8v w' (some ⟨w.heap.size, 0, none⟩) [x] ∧ Ext w w' := by
  have g := run_buildN (P := Try.prog) (t := 22) (e := 5) e8.toElem [u8v x] (by simp [u8v, Value.oneCell']) (by simp) w
  exact ⟨_, g, Sl.lit (f := u8v) [x] w, Ext.new _ _⟩

/-- Long (the reference's) -/
theorem rlong_calls {w : World} (m : Nat) (hm : m ≤ 2048) (k : Int) (hk : -9223372036854775808 ≤ k ∧ k ≤ 9223372036854775807) :
    Calls Try.prog 176 #[.int .i64 m, .int .i64 k] w (Ret fun v w' => v = .int .i64 (if 0 ≤ k ∧ k < 32 ∧ 64 * k < m then (lenC m k.toNat : Int) else 0) ∧ w' = w) := by
  refine calls_of_vc lok Try.func176 ?_ rfl
  conv => whnf
  refine vcReg_meet lok (fun β : Bool => [(16, .bool β)]) (fun β w' => w' = w ∧ β = !decide (0 ≤ k ∧ k < 32 ∧ 64 * k < m)) [16] (fun _ => rfl) rfl ?_ ?_
  · conv => whnf
    refine bcase (fun h1 => ?_) (fun h1 => ?_)
    · have h1 := dt h1
      conv => whnf
      exact ⟨_, ⟨rfl, trivial⟩, rfl, by rw [decide_eq_false (by omega)]; rfl⟩
    have h1 := df h1
    conv => whnf
    refine bcase (fun h2 => ?_) (fun h2 => ?_)
    · have h2 := dt h2
      conv => whnf
      exact ⟨_, ⟨rfl, trivial⟩, rfl, by rw [decide_eq_false (by omega)]; rfl⟩
    have h2 := df h2
    conv => whnf
    refine ⟨by omega, ?_⟩
    conv => whnf
    refine ⟨_, ⟨rfl, trivial⟩, rfl, ?_⟩
    by_cases h3 : 64 * k < m
    · rw [decide_eq_false (by omega), decide_eq_true ⟨by omega, by omega, h3⟩]; rfl
    · rw [decide_eq_true (by omega), decide_eq_false (fun q => h3 q.2.2)]; rfl
  rintro β w1 ⟨hw1, hβ⟩
  subst hw1
  conv => whnf
  refine vcCond_split lok rfl (fun h1 => ?_) (fun h1 => ?_)
  · rw [h1] at hβ
    have hn : ¬ (0 ≤ k ∧ k < 32 ∧ 64 * k < m) := fun q => by rw [decide_eq_true q] at hβ; cases hβ
    rw [if_neg hn]
    conv => whnf
    exact ⟨rfl, rfl⟩
  rw [h1] at hβ
  have hy : 0 ≤ k ∧ k < 32 ∧ 64 * k < m := by
    by_cases q : 0 ≤ k ∧ k < 32 ∧ 64 * k < m
    · exact q
    · rw [decide_eq_false q] at hβ; cases hβ
  rw [if_pos hy]
  conv => whnf
  refine ⟨by omega, ?_⟩
  conv => whnf
  refine ⟨by omega, ?_⟩
  conv => whnf
  refine vcCond_split lok rfl (fun h2 => ?_) (fun h2 => ?_)
  · have h2 := dt h2
    conv => whnf
    refine ⟨by omega, ?_⟩
    conv => whnf
    refine ⟨by omega, ?_⟩
    conv => whnf
    refine ⟨?_, rfl⟩
    congr 1
    unfold lenC
    omega
  · have h2 := df h2
    conv => whnf
    refine ⟨?_, rfl⟩
    congr 1
    unfold lenC
    omega

/-- chunk -/
theorem lchunk_calls {w : World} {a : Option Addr} {c : Nat} {xs : List (BitVec 8)} (h : Sl u8v w a xs) (hl : xs.length ≤ 2048) (hc : xs.length ≤ c) (hcm : c ≤ 9223372036854775807) (k : Nat) (hk : 64 * k < xs.length) :
    Calls Try.prog 126 #[.slice a xs.length c, .int .i64 k] w (Ret fun v w' => ∃ a' c', v = .slice a' (chunkF xs k).length c' ∧ Sl u8v w' a' (chunkF xs k) ∧ w' = w) := by
  have hcl := chunkF_len xs k
  have hlc : lenC xs.length k ≤ 64 ∧ 64 * k + lenC xs.length k ≤ xs.length := by unfold lenC; omega
  refine calls_of_vc lok Try.func126 ?_ rfl
  conv => whnf
  refine ⟨by omega, ?_⟩
  conv => whnf
  refine ⟨by omega, ?_⟩
  conv => whnf
  refine Calls.ret (rlong_calls xs.length hl k (by omega)) ?_
  rintro _ w1 ⟨rfl, hw1⟩
  conv => whnf
  subst hw1
  rw [if_pos (by omega), Int.toNat_natCast]
  refine ⟨by omega, ?_⟩
  conv => whnf
  refine ⟨⟨by omega, by omega, by omega⟩, ?_⟩
  intro b hb
  have e1 : (64 * (k : Int)).toNat = 64 * k := by omega
  have e2 : (64 * (k : Int) + (lenC xs.length k : Int)).toNat - (64 * (k : Int)).toNat = (chunkF xs k).length := by omega
  have hsl := Sl.mid h (64 * k) (64 * k + lenC xs.length k) c (by omega) (by omega) hc
  have e3 : (xs.drop (64 * k)).take (64 * k + lenC xs.length k - 64 * k) = chunkF xs k := by
    unfold chunkF lenC
    rw [show 64 * k + min 64 (xs.length - 64 * k) - 64 * k = min 64 (xs.length - 64 * k) by omega]
    by_cases q : 64 ≤ xs.length - 64 * k
    · rw [Nat.min_eq_left q]
    · rw [Nat.min_eq_right (by omega), List.take_of_length_le (by rw [List.length_drop]; omega), List.take_of_length_le (by rw [List.length_drop]; omega)]
  rw [e3] at hsl
  rw [e1] at hb
  rw [← hb] at hsl
  rw [e2]
  exact ⟨b, _, rfl, hsl, rfl⟩

set_option maxHeartbeats 1000000 in
/-- image -/
theorem image_calls {w : World} {a : Option Addr} {c : Nat} {bs : List (BitVec 8)} (h : Sl u8v w a bs) (hl : bs.length ≤ 9223372036854775807) (n : Nat) (hn : n ≤ 2048) :
    Calls Try.prog 123 #[.slice a bs.length c, .int .i64 n] w (Ret fun v w' => ∃ a' c' xs, v = .slice a' n c' ∧ xs.length = n ∧ Own 5 u8v w.heap.size w' a' c' xs ∧ Ext w w') := by
  refine calls_of_vc lok Try.func123 ?_ rfl
  conv => whnf
  refine vcLoop_inv lok (σ := Nat × Option Addr × Nat × List (BitVec 8))
    (fun ⟨i, ra, rc, xs⟩ => [(6, .int .i64 i), (5, .slice ra xs.length rc), (0, .slice a bs.length c), (1, .int .i64 n)])
    (fun ⟨i, ra, rc, xs⟩ w' => i ≤ n ∧ xs.length = i ∧ Own 5 u8v w.heap.size w' ra rc xs ∧ Ext w w') (fun t => n - t.1)
    (0, none, 0, []) ⟨rfl, rfl, rfl, rfl, trivial⟩ ⟨Nat.zero_le _, rfl, Own.nil _ _ _ _, Ext.refl _⟩ ?_
  rintro ⟨i, ra, rc, xs⟩ w1 ⟨hi, hxl, ho1, x1⟩
  conv => whnf
  refine vcCond_split lok rfl (fun h2 => ?_) (fun h2 => ?_)
  · have h2 := dt h2
    conv => whnf
    refine ⟨by omega, ?_⟩
    conv => whnf
    intro z hz
    have gz : ∃ y : BitVec 8, z = (y.toNat : Int) := ⟨BitVec.ofInt 8 z, by rw [hz, wu8]; simp; omega⟩
    obtain ⟨y, hy⟩ := gz
    clear hz
    subst hy
    conv => whnf
    refine vcCond_meet (fun y : BitVec 8 => [(7, .int .u8 y.toNat), (6, .int .i64 i), (5, .slice ra xs.length rc), (0, .slice a bs.length c), (1, .int .i64 n)]) (fun y w' => Ext w1 w') ?_ ?_
    · refine vcCond_split lok rfl (fun h3 => ?_) (fun h3 => ?_)
      · have h3 := dt h3
        conv => whnf
        refine vcDraw_go lok mixed (fun w' => w' = w1.drew) [] [0, 1, 2, 3, 4, 5, 6, 7, 8, 9, 10, 11, 12, 13] (by kernel_rfl) (fun w2 hw2 => ⟨hw2, ?_⟩)
        have x2 : Ext w1 w2 := hw2 ▸ Ext.drew w1
        have hs2 := (h.ext x1).ext x2
        conv => whnf
        refine ⟨by omega, ?_⟩
        intro z hz
        have hz33 : z = ((i % bs.length : Nat) : Int) := by rw [hz]; exact rem_nat i bs.length
        clear hz
        subst hz33
        conv => whnf
        have hix : i % bs.length < bs.length := Nat.mod_lt _ (by omega)
        have g4 := hs2.at ((i % bs.length : Nat) : Int) (by omega) (by omega)
        obtain ⟨p4, o4, ha4, hc4⟩ := g4
        refine ⟨p4, o4, ha4, ⟨by omega, by omega⟩, ?_⟩
        conv => whnf
        refine ⟨_, fun w' hw' => by rw [hw', ← hw2]; exact hc4, ?_⟩
        generalize bs.getD ((i % bs.length : Nat) : Int).toNat default = v at *
        conv => whnf
        refine ⟨by omega, ?_⟩
        have hq : i / bs.length ≤ i := Nat.div_le_self _ _
        intro z hz
        have hz36 : z = ((i / bs.length : Nat) : Int) := by rw [hz, quo_nat]; generalize i / bs.length = qq at *; exact wi64 (by omega)
        clear hz
        subst hz36
        conv => whnf
        intro z hz
        clear hz
        conv => whnf
        intro z2 hz2
        have gz : ∃ y : BitVec 8, z2 = (y.toNat : Int) := ⟨BitVec.ofInt 8 z2, by rw [hz2, wu8]; simp; omega⟩
        obtain ⟨y2, hy2⟩ := gz
        clear hz2
        subst hy2
        exact ⟨y2, ⟨rfl, rfl, rfl, rfl, rfl, trivial⟩, x2⟩
      · conv => whnf
        exact ⟨y, ⟨rfl, rfl, rfl, rfl, rfl, trivial⟩, Ext.refl _⟩
    rintro y3 w3 x3
    conv => whnf
    have g6 := run_byte w3 y3
    obtain ⟨w6, hr6, hs6, x6⟩ := g6
    refine ⟨_, _, hr6, ?_⟩
    conv => whnf
    have z1 := x1.size
    have z3 := x3.size
    have z6 := x6.size
    have g7 := ((ho1.ext x3).ext x6).append (ty := 22) (d := 1) e8.toElem (fun _ => rfl) hs6 (by simp; omega) (by omega)
    obtain ⟨a7, c7, w7, hr7, ho7, hg7, _⟩ := g7
    refine ⟨_, _, hr7, ?_⟩
    have x7 : Ext w w7 := hg7.extOf (x1.trans (x3.trans x6)) (fun g hg => (ho1.ge g hg).1)
    have el : (xs ++ [y3]).length = i + 1 := by rw [List.length_append, hxl]; rfl
    have gy : ∃ ys, ys = xs ++ [y3] := ⟨_, rfl⟩
    obtain ⟨ys, hys⟩ := gy
    rw [← hys] at ho7 el ⊢
    conv => whnf
    refine ⟨by omega, ?_⟩
    conv => whnf
    exact ⟨(i + 1, a7, c7, ys), ⟨rfl, rfl, rfl, rfl, trivial⟩, ⟨by omega, el, ho7, x7⟩, by show n - (i + 1) < n - i; omega⟩
  · have h2 := df h2
    conv => whnf
    have hin : i = n := by omega
    subst hin
    exact ⟨ra, rc, xs, by rw [hxl], hxl, ho1, x1⟩
end Go.Proofs.Ytgipackjnncabaa

/- The law SlotsBack, walked. -/
set_option linter.unusedVariables false
namespace Go.Proofs.Ytgipackjnncabaa
open Go.Vc Go.RowKit

theorem have_or {ws vs : List (BitVec 32)} {p m k : Nat} (hk : k < 32) (hm : 64 * k < m) (h0 : vs.getD (p + 3 + k) 0#32 = 0#32) (h1 : ∀ j, j < 32 → j ≠ k → vs.getD (p + 3 + j) 0#32 = ws.getD (p + 3 + j) 0#32) :
    haveB vs p m 32 = haveB ws p m 32 ||| BitVec.twoPow 32 k := by
  apply BitVec.eq_of_getLsbD_eq
  intro i hi
  rw [BitVec.getLsbD_or, haveB_bit vs p m 32 i (Nat.le_refl _) hi, haveB_bit ws p m 32 i (Nat.le_refl _) hi, BitVec.getLsbD_twoPow]
  by_cases e : i = k
  · subst e
    have : bitB vs p m i = true := decide_eq_true ⟨hm, h0⟩
    rw [this]
    simp [hi]
  · have : bitB vs p m i = bitB ws p m i := by unfold bitB; rw [h1 i hi e]
    rw [this]
    simp [Ne.symm e, hi]
theorem seal_img {s : FS} {n : Nat} {slot : Int} {v : BitVec 32} {all : List (BitVec 8)} (hs : s.off = false) (hb : ¬ badF slot) (h : Img s.ws (atF n slot) v all) (hall : allB s.ws (atF n slot) all.length 32 = true) (hl : s.left < 0) :
    ∃ t, sealSF s n slot = (t, 0) ∧ sealedF t n slot = true := by
  have hlen := h.len
  have hmany := h.many
  have ew : wholeSF s n slot = (all.length, 0) := by
    unfold wholeSF haveW
    rw [check_ok hs hb, if_neg (by simp), h.head]
    exact if_pos hall
  have e : sealSF s n slot = (s.did (s.ws.set (atF n slot + 35) (s.ws.getD (atF n slot + 35) 0#32 &&& 0#32)), 0) := by
    unfold sealSF
    rw [ew, if_pos rfl]
    unfold progF
    rw [hs, if_neg (by simp), if_neg (by omega), if_neg (by omega), Int.toNat_natCast]
  refine ⟨_, e, ?_⟩
  have get := fun i => set_get0 s.ws (atF n slot + 35) i (s.ws.getD (atF n slot + 35) 0#32 &&& 0#32) (by omega)
  have eh : headW (s.ws.set (atF n slot + 35) (s.ws.getD (atF n slot + 35) 0#32 &&& 0#32)) (atF n slot) = some (v, all.length) := by
    have q := h.head
    unfold headW at q ⊢
    have l0 : (s.ws.set (atF n slot + 35) (s.ws.getD (atF n slot + 35) 0#32 &&& 0#32)).getD (atF n slot) 0#32 = s.ws.getD (atF n slot) 0#32 := by rw [get, if_neg (by omega)]
    have l1 : (s.ws.set (atF n slot + 35) (s.ws.getD (atF n slot + 35) 0#32 &&& 0#32)).getD (atF n slot + 1) 0#32 = s.ws.getD (atF n slot + 1) 0#32 := by rw [get, if_neg (by omega)]
    have l2 : (s.ws.set (atF n slot + 35) (s.ws.getD (atF n slot + 35) 0#32 &&& 0#32)).getD (atF n slot + 2) 0#32 = s.ws.getD (atF n slot + 2) 0#32 := by rw [get, if_neg (by omega)]
    rw [l0, l1, l2]
    exact q
  unfold sealedF haveF haveW
  rw [did_off, did_ws, hs, if_neg (by simp [hb]), eh]
  dsimp only
  have e35 : (s.ws.set (atF n slot + 35) (s.ws.getD (atF n slot + 35) 0#32 &&& 0#32)).getD (atF n slot + 35) 0#32 = 0#32 := by rw [get, if_pos rfl, BitVec.and_zero]
  have : allB (s.ws.set (atF n slot + 35) (s.ws.getD (atF n slot + 35) 0#32 &&& 0#32)) (atF n slot) all.length 32 = true := allB_iff.2 fun i hi hm => by
    rw [get, if_neg (by omega)]
    exact allB_iff.1 hall i hi hm
  rw [this, e35]
  rfl
theorem headR_img {s : FS} {n : Nat} {slot : Int} {v : BitVec 32} {all : List (BitVec 8)} (hs : s.off = false) (hb : ¬ badF slot) (h : Img s.ws (atF n slot) v all) : headR s n slot = (v, all.length, true) := by
  rw [headR_ok (check_ok hs hb), h.head]

set_option maxRecDepth 100000 in
set_option maxHeartbeats 8000000 in
theorem slotsBack_walk {w : World} {ba oa : Option Addr} {bc oc : Nat} {bs order : List (BitVec 8)} (hbs : Sl u8v w ba bs) (hbl : bs.length ≤ 9223372036854775807) (hor : Sl u8v w oa order) (hol : order.length ≤ 9223372036854775807) (sz : Nat) (hsz : sz ≤ 65535) :
    Calls Try.prog 33 #[.slice ba bs.length bc, .int .u16 sz, .slice oa order.length oc] w (Law w) := by
  refine calls_of_vc lok Try.func33 ?_ rfl
  conv => whnf
  intro z hz
  have hz2 : z = (sz : Int) := by rw [hz]; exact wi64 (by omega)
  clear hz
  subst hz2
  conv => whnf
  refine ⟨by decide, ?_⟩
  intro z hz
  have hz3 : z = ((sz % 2048 : Nat) : Int) := by rw [hz]; exact rem_nat sz 2048
  clear hz
  subst hz3
  conv => whnf
  refine ⟨by omega, ?_⟩
  conv => whnf
  have gn : ∃ n : Nat, n = 1 + sz % 2048 ∧ 1 ≤ n ∧ n ≤ 2048 := ⟨_, rfl, by omega, by omega⟩
  obtain ⟨n, hn, hn1, hn2⟩ := gn
  rw [show (1 : Int) + ((sz % 2048 : Nat) : Int) = (n : Int) by omega]
  conv => whnf
  refine Calls.ret (image_calls hbs hbl n hn2) ?_
  rintro _ w1 ⟨aa, ac, all, rfl, hal, hoa, x1⟩
  conv => whnf
  refine Calls.ret (new_calls 6) ?_
  rintro _ w2 hp
  conv => whnf
  rcases hp with ⟨hno, _, _⟩ | ⟨_, g, gw, fc, rfl, f2, x2⟩
  · exact absurd hno (by decide)
  replace f2 : FlAt 181 w1.heap.size w2 g gw fc k22S := f2
  have l0 : k22S.ws.length = 1536 := List.length_replicate
  have n0 : Num k22S 1536 0 := ⟨l0, ⟨Int.le_refl _, Int.le_refl _⟩, by show (-1 : Int) ≤ _; decide⟩
  have so : k22S.off = false := rfl
  have sl : k22S.left < 0 := by show (-1 : Int) < 0; decide
  generalize k22S = s0 at *
  have z1 := x1.size
  have f2lo := f2.lo
  have f2lt := f2.lt
  conv => whnf
  refine Calls.ret (sopen_calls f2 (by omega) 0) ?_
  rintro _ w3 hp
  conv => whnf
  rcases hp with ⟨hno, _, _⟩ | ⟨m, hm, _, sb, rfl, hsb, S3, x3⟩
  · exact absurd ⟨by decide, by rw [l0]; decide⟩ hno
  have hm0 : m = 0 := by omega
  subst hm0
  clear hm
  have hbad : ¬ badF 1 := by decide
  have hat : atF 0 1 = 768 := rfl
  have hcan : canN 5#32 (n : Int) := ⟨by decide, by decide, by omega, by omega⟩
  have gb := begin_cases (n := 0) (slot := 1) (v := 5#32) (m := n) so hbad hcan (by rw [hat, l0]; decide)
  rcases gb with ⟨t, e1, e2, e3, e4⟩ | ⟨_, _, _, q, _⟩
  rotate_left
  · omega
  have tl := e4 sl
  have tn := begin_num (at_ := 0) (slot := 1) (v := 5#32) (m := n) n0
  rw [e1] at tn
  replace tn : Num t 1536 17 := tn
  rw [Int.toNat_natCast, ← hal] at e2
  have timg := e2.img (all := all) (by rw [hat, tn.len]; decide)
  have x03 := x1.trans (x2.trans x3)
  have S3' : SlAt w.heap.size w3 sb g gw fc 0 s0 := ⟨S3.f.base z1, S3.b, S3.n1, S3.n2, S3.room, S3.small⟩
  have gbeg := sbegin_calls S3' 1 5#32 n (by rw [l0]; exact n0) (by decide)
  rw [e1] at gbeg
  have hoa3 := (hoa.ext x2).ext x3
  have nS : ∀ {w' w''}, FlMod g gw w' w'' → Own 5 u8v w.heap.size w' aa ac all → Own 5 u8v w.heap.size w'' aa ac all := fun {w' w''} m h => m.keepOwn h fun k hk e => by
    have := (hoa.ge k hk).2
    rcases e with e | e <;> omega
  conv => whnf
  refine vcReg_meet lok (fun β : Bool => [(52, .bool β)]) (fun β w' => β = false ∧ SlAt w.heap.size w' sb g gw fc 0 t ∧ FlMod g gw w3 w') [52] (fun _ => rfl) rfl ?_ ?_
  · conv => whnf
    refine Calls.ret (gbeg) ?_
    rintro _ w4 ⟨rfl, S4, m4⟩
    conv => whnf
    exact ⟨_, ⟨rfl, trivial⟩, rfl, S4, m4⟩
  rintro β w4 ⟨rfl, S4, m4⟩
  have hoa4 := nS m4 hoa3
  have x04 := FlMod.above m4 x03 (by omega) (by omega)
  clear gbeg e1 e2 S3 S3' hoa3 e4
  conv => whnf
  refine vcCond_false lok (rfl) ?_
  conv => whnf
  refine ⟨by omega, ?_⟩
  conv => whnf
  refine ⟨by decide, ?_⟩
  intro z hz
  have hz16 : z = (((n + 63) / 64 : Nat) : Int) := by rw [hz]; exact (congrArg IntKind.i64.wrap (quo_nat (n + 63) 64)).trans (wi64 (by omega))
  clear hz
  subst hz16
  conv => whnf
  have gmany : ∃ many : Nat, many = (n + 63) / 64 ∧ 1 ≤ many ∧ many ≤ 32 ∧ n ≤ 64 * many ∧ ∀ k, k < many → 64 * k < n := ⟨_, rfl, by omega, by omega, by omega, fun k hk => by omega⟩
  obtain ⟨many, hmany, hm1, hm2, hm3, hm4⟩ := gmany
  rw [← hmany]
  -- what a chunk's writing leaves
  have hac := hoa.le
  have hcm : maxLen ≤ 9223372036854775807 := by decide
  have step : ∀ (s : FS) (i : Nat) (w' : World) (k : Nat), k < many → SlAt w.heap.size w' sb g gw fc 0 s → Num s 1536 i → i ≤ 1152921504606846976 → s.off = false → s.left < 0 → Img s.ws (atF 0 1) 5#32 all → Own 5 u8v w.heap.size w' aa ac all →
      ∃ t, writeSF s 0 1 (k : Int) (chunkF all k) = (t, 0) ∧ t.off = false ∧ t.left < 0 ∧ Img t.ws (atF 0 1) 5#32 all ∧ Num t 1536 (i + 17) ∧ t.ws.getD (atF 0 1 + 3 + k) 0#32 = 0#32 ∧ (∀ j, j < 32 → j ≠ k → t.ws.getD (atF 0 1 + 3 + j) 0#32 = s.ws.getD (atF 0 1 + 3 + j) 0#32) := by
    intro s i w' k hk S sn hi so sl himg ho
    have hk2 := hm4 k hk
    have gw1 := write_img (slot := 1) (n := 0) so hbad himg k (by rw [hal]; exact hk2)
    have nn := write_num (at_ := 0) (slot := 1) (chunk := (k : Int)) (b := chunkF all k) sn
    rcases gw1 with ⟨t, g1, g2, g3, g4, g5, g6, g7⟩ | ⟨t, _, _, g3, _⟩
    · rw [g1] at nn
      exact ⟨t, g1, g2, g3 sl, g5, nn, g6, g7⟩
    · omega
  refine vcLoop_inv lok (σ := Nat)
    (fun i => [(13, .int .i64 i), (10, .pointer (some ⟨sb, 0, none⟩)), (8, .slice aa n ac), (7, .int .i64 n), (12, .int .i64 many), (2, .slice oa order.length oc), (9, .pointer (some ⟨g, 0, none⟩))])
    (fun i w' => i ≤ 60 ∧ ∃ s, SlAt w.heap.size w' sb g gw fc 0 s ∧ Num s 1536 (17 * i + 17) ∧ s.off = false ∧ s.left < 0 ∧ Img s.ws (atF 0 1) 5#32 all ∧ Own 5 u8v w.heap.size w' aa ac all ∧ Ext w w') (fun i => 60 - i)
    0 ⟨rfl, rfl, rfl, rfl, rfl, rfl, rfl, trivial⟩ ⟨Nat.zero_le _, t, S4, tn, e3, tl, timg, hoa4, x04⟩ ?_
  rintro i w5 ⟨hi60, s, S5, sn, so, sl, simg, ho5, x5⟩
  have slen := sn.len
  conv => whnf
  refine vcReg_meet lok (fun β : Bool => [(63, .bool β)]) (fun β w' => w' = w5 ∧ β = decide (i < order.length ∧ i < 60)) [63] (fun _ => rfl) rfl ?_ ?_
  · conv => whnf
    refine bcase (fun h1 => ?_) (fun h1 => ?_)
    · have h1 := dt h1
      conv => whnf
      refine ⟨_, ⟨rfl, trivial⟩, rfl, ?_⟩
      rw [decide_eq_decide]; omega
    · have h1 := df h1
      conv => whnf
      exact ⟨_, ⟨rfl, trivial⟩, rfl, by rw [eq_comm, decide_eq_false_iff_not]; omega⟩
  rintro β w6 ⟨hw6, hβ⟩
  subst hw6
  conv => whnf
  refine vcCond_split lok rfl (fun h1 => ?_) (fun h1 => ?_)
  · rw [h1] at hβ
    have hlt2 := dt hβ.symm
    conv => whnf
    have g24 := ((hor.ext x5)).at ((i : Int)) (by omega) (by omega)
    obtain ⟨p24, o24, ha24, hcell24⟩ := g24
    refine ⟨p24, o24, ha24, ⟨by omega, by omega⟩, ?_⟩
    conv => whnf
    refine ⟨_, hcell24, ?_⟩
    conv => whnf
    generalize order.getD (i : Int).toNat default = ov at *
    have hov := ov.isLt
    intro z hz
    have hz25 : z = (ov.toNat : Int) := by rw [hz]; exact wi64 (by omega)
    clear hz
    subst hz25
    conv => whnf
    refine ⟨by omega, ?_⟩
    intro z hz
    have hz26 : z = ((ov.toNat % many : Nat) : Int) := by rw [hz]; exact rem_nat _ _
    clear hz
    subst hz26
    conv => whnf
    have hkm : ov.toNat % many < many := Nat.mod_lt _ (by omega)
    generalize ov.toNat % many = k at *
    have hk2 := hm4 k hkm
    have gch := lchunk_calls ho5.sl (by omega) hac.1 (by omega) k (by omega)
    rw [hal] at gch
    refine Calls.ret (gch) ?_
    rintro _ w7 ⟨ca, cc, rfl, hcs, hw7⟩
    conv => whnf
    subst hw7
    have gst := step s (17 * i + 17) w7 k hkm S5 sn (by omega) so sl simg ho5
    obtain ⟨t2, g1, g2, g3, g4, g5, _, _⟩ := gst
    have gwr := swrite_calls (bc := cc) S5 1 (k : Int) hcs (by rw [chunkF_len]; have := lenC_le all.length k; omega) (by rw [slen]; exact sn) (by omega)
    rw [g1] at gwr
    refine Calls.ret (gwr) ?_
    rintro _ w8 ⟨rfl, S8, m8⟩
    conv => whnf
    replace S8 : SlAt w.heap.size w8 sb g gw fc 0 t2 := S8
    refine vcCond_false lok (rfl) ?_
    conv => whnf
    refine ⟨by omega, ?_⟩
    conv => whnf
    exact ⟨i + 1, ⟨rfl, rfl, rfl, rfl, rfl, rfl, rfl, trivial⟩, ⟨by omega, t2, S8, g5.up (by omega), g2, g3, g4, nS m8 ho5, FlMod.above m8 x5 (by omega) (by omega)⟩, by omega⟩
  clear hβ
  conv => whnf
  refine ⟨by omega, ?_⟩
  conv => whnf
  have hi2 : 17 * i + 17 ≤ 2000 := by omega
  have sn := sn.up hi2
  clear hi2
  rw [show ((many : Nat) : Int) - 1 = ((many : Nat) : Int) - 1 from rfl]
  refine vcLoop_inv lok (σ := Nat)
    (fun j => [(15, .int .i64 ((j : Int) - 1)), (10, .pointer (some ⟨sb, 0, none⟩)), (8, .slice aa n ac), (7, .int .i64 n)])
    (fun j w' => j ≤ many ∧ ∃ s, SlAt w.heap.size w' sb g gw fc 0 s ∧ Num s 1536 (2000 + 17 * (many - j)) ∧ s.off = false ∧ s.left < 0 ∧ Img s.ws (atF 0 1) 5#32 all ∧ Own 5 u8v w.heap.size w' aa ac all ∧ (∀ l, j ≤ l → l < many → s.ws.getD (atF 0 1 + 3 + l) 0#32 = 0#32) ∧ Ext w w') (fun j => j)
    many ⟨rfl, rfl, rfl, rfl, trivial⟩ ⟨Nat.le_refl _, s, S5, sn.up (by omega), so, sl, simg, ho5, fun l h1 h2 => by omega, x5⟩ ?_
  clear S5 sn so sl simg ho5 x5 slen
  rintro j w7 ⟨hj, s, S7, sn, so, sl, simg, ho7, hmk, x7⟩
  have slen := sn.len
  conv => whnf
  refine vcCond_split lok rfl (fun h3 => ?_) (fun h3 => ?_)
  · have h3 := dt h3
    conv => whnf
    have hj1 : 1 ≤ j := by omega
    have gk : ∃ k, j = k + 1 := ⟨j - 1, by omega⟩
    obtain ⟨k, rfl⟩ := gk
    rw [show ((k + 1 : Nat) : Int) - 1 = (k : Int) by omega]
    have hkm : k < many := by omega
    have hk2 := hm4 k hkm
    refine Calls.ret (shave_calls S7 1) ?_
    rintro _ w8 ⟨rfl, x8⟩
    conv => whnf
    have gch := lchunk_calls (ho7.ext x8).sl (by omega) hac.1 (by omega) k (by omega)
    rw [hal] at gch
    refine Calls.ret (gch) ?_
    rintro _ w9 ⟨ca, cc, rfl, hcs, hw9⟩
    conv => whnf
    subst hw9
    have gst := step s (2000 + 17 * (many - (k + 1))) w9 k hkm (S7.ext x8) sn (by omega) so sl simg (ho7.ext x8)
    obtain ⟨t2, g1, g2, g3, g4, g5, g6, g7⟩ := gst
    have gwr := swrite_calls (bc := cc) (S7.ext x8) 1 (k : Int) hcs (by rw [chunkF_len]; have := lenC_le all.length k; omega) (by rw [slen]; exact sn) (by omega)
    rw [g1] at gwr
    refine Calls.ret (gwr) ?_
    rintro _ w10 ⟨rfl, S10, m10⟩
    conv => whnf
    replace S10 : SlAt w.heap.size w10 sb g gw fc 0 t2 := S10
    have ho10 := nS m10 (ho7.ext x8)
    have x10 := FlMod.above m10 (x7.trans x8) (by omega) (by omega)
    have eh1 := img_have so hbad simg
    have eh2 := img_have g2 hbad g4
    have eor : haveB t2.ws (atF 0 1) all.length 32 = haveB s.ws (atF 0 1) all.length 32 ||| BitVec.twoPow 32 k := have_or (by omega) (by omega) g6 g7
    have eb := img_whole g2 hbad g4
    refine vcCond_false lok (rfl) ?_
    conv => whnf
    refine Calls.ret (shave_calls S10 1) ?_
    rintro _ w11 ⟨rfl, x11⟩
    conv => whnf
    rw [eh1, eh2, eor]
    intro y hz
    have hz41 : y = (k : Int) := by rw [hz, wu64]; omega
    clear hz
    subst hz41
    conv => whnf
    refine ⟨by omega, ?_⟩
    intro y2 hz
    have hz42 : y2 = ((BitVec.twoPow 32 k).toNat : Int) := by rw [hz, pow_nat k (by omega)]; exact shl_one k (by omega)
    clear hz
    subst hz42
    conv => whnf
    refine Calls.ret (sbytes_calls (S10.ext x11) 1) ?_
    rintro _ w12 ⟨xa, xc, rfl, hox, x12⟩
    conv => whnf
    rw [eb] at hox ⊢
    have ho12 := (ho10.ext x11).ext x12
    refine vcReg_meet lok (fun β : Bool => [(131, .bool β)]) (fun β w' => w' = w12 ∧ β = false) [131] (fun _ => rfl) rfl ?_ ?_
    · conv => whnf
      intro y3 hz
      have hz45 : y3 = ((haveB s.ws (atF 0 1) all.length 32 ||| BitVec.twoPow 32 k).toNat : Int) := by rw [hz]; exact or32 _ _
      clear hz
      subst hz45
      conv => whnf
      refine bcase (fun k4 => absurd rfl (ne_true k4)) (fun _ => ?_)
      cases hall : allB t2.ws (atF 0 1) all.length 32 with
      | false =>
        conv => whnf
        exact ⟨_, ⟨rfl, trivial⟩, rfl, rfl⟩
      | true =>
        rw [hall, if_pos rfl] at hox
        conv => whnf
        refine ⟨_, run_toStr hox.sl, ?_⟩
        conv => whnf
        have hst := run_toStr (P := Try.prog) (c := ac) ho12.sl
        rw [hal] at hst
        refine ⟨_, hst, ?_⟩
        conv => whnf
        intro γ hγ
        have hγ2 : γ = true := by rw [str_eq hγ rfl rfl]; simp
        clear hγ
        subst hγ2
        exact ⟨_, ⟨rfl, trivial⟩, rfl, rfl⟩
    rintro β w13 ⟨hw13, rfl⟩
    subst hw13
    conv => whnf
    refine vcCond_false lok (rfl) ?_
    conv => whnf
    refine ⟨by omega, ?_⟩
    conv => whnf
    refine ⟨k, ⟨rfl, rfl, rfl, rfl, trivial⟩, ⟨by omega, t2, (S10.ext x11).ext x12, g5.up (by omega), g2, g3, g4, ho12, fun l h1 h2 => ?_, x10.trans (x11.trans x12)⟩, by omega⟩
    by_cases e : l = k
    · subst e; exact g6
    · rw [g7 l (by omega) e]; exact hmk l (by omega) h2
  · have h3 := df h3
    conv => whnf
    have hj0 : j = 0 := by omega
    subst hj0
    have hall : allB s.ws (atF 0 1) all.length 32 = true := allB_iff.2 fun i hi hm => hmk i (Nat.zero_le _) (by omega)
    have eb := img_whole so hbad simg
    rw [hall, if_pos rfl] at eb
    have ehd := headR_img so hbad simg
    have gseal := seal_img so hbad simg hall sl
    obtain ⟨t3, q1, q2⟩ := gseal
    refine Calls.ret (sbytes_calls S7 1) ?_
    rintro _ w8 ⟨xa, xc, rfl, hox, x8⟩
    conv => whnf
    rw [eb] at hox ⊢
    refine Calls.ret (shead_calls (S7.ext x8) 1) ?_
    rintro _ w9 ⟨rfl, x9⟩
    conv => whnf
    rw [ehd]
    have gse := sseal_calls ((S7.ext x8).ext x9) 1 (by rw [slen]; exact sn) (by omega)
    rw [q1] at gse
    refine vcReg_go lok ?_
    conv => whnf
    refine ⟨_, run_toStr ((hox.ext x9).sl), ?_⟩
    conv => whnf
    have hst := run_toStr (P := Try.prog) (c := ac) ((ho7.ext x8).ext x9).sl
    rw [hal] at hst
    refine ⟨_, hst, ?_⟩
    conv => whnf
    intro γ hγ
    have hγ2 : γ = true := by rw [str_eq hγ rfl rfl]; simp
    clear hγ
    subst hγ2
    conv => whnf
    refine Calls.ret (gse) ?_
    rintro _ w10 ⟨rfl, S10, m10⟩
    conv => whnf
    replace S10 : SlAt w.heap.size w10 sb g gw fc 0 t3 := S10
    have gsd := ssealed_calls S10 1
    rw [q2] at gsd
    refine Calls.ret (gsd) ?_
    rintro _ w11 ⟨rfl, x11⟩
    conv => whnf
    refine bcase (fun _ => ?_) (fun k4 => absurd (by rw [hal]) (of_decide_eq_false k4))
    conv => whnf
    refine Calls.ret (known22) ?_
    rintro _ w12 ⟨rfl, x12⟩
    conv => whnf
    exact ⟨rfl, (FlMod.above m10 (x7.trans (x8.trans x9)) (by omega) (by omega)).trans (x11.trans x12)⟩
end Go.Proofs.Ytgipackjnncabaa

/- Walks of layer 22: the document's slots: where they lie, the head, the chunks that are there, sealed, whole. -/
set_option linter.unusedVariables false
namespace Go.Proofs.Ytgipackjnncabaa
open Go.Vc Go.RowKit

/-- the document's slots at block rb -/
structure RsAt (B : Nat) (w : World) (rb g gw c n : Nat) (s : FS) : Prop where
  f : FlAt 81 B w g gw c s
  b : Blk w rb 184 (sC g n)
  n1 : rb ≠ g
  n2 : rb ≠ gw
  room : 256 * (n + 6) ≤ s.ws.length
  small : s.ws.length ≤ 65536

theorem check_dec (s : FS) (slot : Int) : decide (checkF s slot = 0) = (!s.off && !decide (badF slot)) := by
  unfold checkF
  cases s.off with
  | true => rfl
  | false =>
    by_cases h : badF slot
    · rw [if_neg (by simp), if_pos h, decide_eq_true h]; rfl
    · rw [if_neg (by simp), if_neg h, decide_eq_false h]; rfl
theorem headW_cases (ws : List (BitVec 32)) (p : Nat) :
    ((ws.getD (p + 2) 0#32).toNat = 0 ∧ 1 ≤ (ws.getD p 0#32).toNat ∧ (ws.getD p 0#32).toNat ≤ 4294967294 ∧ 1 ≤ (ws.getD (p + 1) 0#32).toNat ∧ (ws.getD (p + 1) 0#32).toNat ≤ 2048 ∧ headW ws p = some (ws.getD p 0#32, (ws.getD (p + 1) 0#32).toNat)) ∨
    (¬ ((ws.getD (p + 2) 0#32).toNat = 0 ∧ 1 ≤ (ws.getD p 0#32).toNat ∧ (ws.getD p 0#32).toNat ≤ 4294967294 ∧ 1 ≤ (ws.getD (p + 1) 0#32).toNat ∧ (ws.getD (p + 1) 0#32).toNat ≤ 2048) ∧ headW ws p = none) := by
  unfold headW canN
  generalize ws.getD p 0#32 = a0
  generalize ws.getD (p + 1) 0#32 = a1
  generalize ws.getD (p + 2) 0#32 = a2
  have h0 : a2 = 0#32 ↔ a2.toNat = 0 := by rw [← BitVec.toNat_inj]; exact Iff.rfl
  have h1 : a0 = 0#32 ↔ a0.toNat = 0 := by rw [← BitVec.toNat_inj]; exact Iff.rfl
  have h2 : a0 = ones ↔ a0.toNat = 4294967295 := by rw [← BitVec.toNat_inj]; exact Iff.rfl
  have hl := a0.isLt
  by_cases q : a2.toNat = 0 ∧ 1 ≤ a0.toNat ∧ a0.toNat ≤ 4294967294 ∧ 1 ≤ a1.toNat ∧ a1.toNat ≤ 2048
  · refine .inl ⟨q.1, q.2.1, q.2.2.1, q.2.2.2.1, q.2.2.2.2, if_pos ⟨h0.2 q.1, fun e => ?_, fun e => ?_, by omega, by omega⟩⟩
    · have := h1.1 e; omega
    · have := h2.1 e; omega
  · refine .inr ⟨q, if_neg fun e => q ?_⟩
    obtain ⟨e0, e1, e2, e3, e4⟩ := e
    have k1 : a0.toNat ≠ 0 := fun e => e1 (h1.2 e)
    have k2 : a0.toNat ≠ 4294967295 := fun e => e2 (h2.2 e)
    exact ⟨h0.1 e0, by omega, by omega, by omega, by omega⟩

section
variable {B : Nat} {w w' : World} {rb g gw c n : Nat} {s t : FS}
theorem RsAt.ext (h : RsAt B w rb g gw c n s) (x : Ext w w') : RsAt B w' rb g gw c n s := ⟨h.f.ext x, h.b.ext x, h.n1, h.n2, h.room, h.small⟩
theorem RsAt.next (h : RsAt B w rb g gw c n s) (f : FlAt 81 B w' g gw c t) (m : FlMod g gw w w') (hl : t.ws.length = s.ws.length) : RsAt B w' rb g gw c n t :=
  ⟨f, m.keepBlk h.b (fun e => by rcases e with e | e; exact h.n1 e; exact h.n2 e), h.n1, h.n2, by rw [hl]; exact h.room, by rw [hl]; exact h.small⟩

/-- place -/
theorem rsplace_calls (h : RsAt B w rb g gw c n s) (slot : Int) (hb : ¬ badF slot) : Calls Try.prog 178 #[.pointer (some ⟨rb, 0, none⟩), .int .i64 slot] w (Ret fun v w' => v = .int .i64 (atF n slot : Nat) ∧ w' = w) := by
  have hr := h.room
  have hs := h.small
  unfold badF at hb
  refine calls_of_vc lok Try.func178 ?_ rfl
  conv => whnf
  refine ⟨_, h.b.cell (i := 1) rfl, ?_⟩
  conv => whnf
  refine ⟨by omega, ?_⟩
  conv => whnf
  refine ⟨by omega, ?_⟩
  conv => whnf
  refine ⟨by omega, ?_⟩
  conv => whnf
  refine ⟨?_, rfl⟩
  show Value.int .i64 _ = Value.int .i64 _
  congr 1
  unfold atF
  omega
/-- bad -/
theorem rsbad_calls {w : World} (slot : Int) : Calls Try.prog 177 #[.int .i64 slot] w (Ret fun v w' => v = .bool (decide (badF slot)) ∧ w' = w) := by
  refine calls_of_vc lok Try.func177 ?_ rfl
  conv => whnf
  refine vcReg_meet lok (fun β : Bool => [(2, .bool β)]) (fun β w' => w' = w ∧ β = decide (badF slot)) [2] (fun _ => rfl) rfl ?_ ?_
  · conv => whnf
    refine bcase (fun k1 => ?_) (fun k1 => ?_)
    · have k1 : ¬ slot = 0 := by simpa using k1
      conv => whnf
      refine ⟨_, ⟨rfl, trivial⟩, rfl, ?_⟩
      have e : (!decide (slot = 1)) = decide (¬ slot = 1) := by simp
      show (!decide (slot = 1)) = _
      rw [e, decide_eq_decide]
      unfold badF; omega
    · have k1 : slot = 0 := by simpa using k1
      conv => whnf
      refine ⟨_, ⟨rfl, trivial⟩, rfl, ?_⟩
      rw [eq_comm, decide_eq_false_iff_not]
      unfold badF; omega
  rintro β w1 ⟨hw1, rfl⟩
  subst hw1
  conv => whnf
  exact ⟨rfl, rfl⟩

set_option maxHeartbeats 2000000 in
/-- Head -/
theorem rshead_calls (h : RsAt B w rb g gw c n s) (slot : Int) : Calls Try.prog 147 #[.pointer (some ⟨rb, 0, none⟩), .int .i64 slot] w
    (Ret fun r w' => r = .tuple #[.int .u32 (headR s n slot).1.toNat, .int .i64 (headR s n slot).2.1, .bool (headR s n slot).2.2] ∧ Ext w w') := by
  refine calls_of_vc lok Try.func147 ?_ rfl
  conv => whnf
  refine vcReg_meet lok (fun β : Bool => [(18, .bool β)]) (fun β w' => w' = w ∧ β = !decide (checkF s slot = 0)) [18] (fun _ => rfl) rfl ?_ ?_
  · conv => whnf
    refine ⟨_, h.b.cell (i := 0) rfl, ?_⟩
    conv => whnf
    refine ⟨_, h.f.blk.cell (i := 1) rfl, ?_⟩
    conv => whnf
    refine bcase (fun k1 => ?_) (fun k1 => ?_)
    · conv => whnf
      exact ⟨_, ⟨rfl, trivial⟩, rfl, by rw [check_dec, k1]; rfl⟩
    · conv => whnf
      refine Calls.ret (rsbad_calls slot) ?_
      rintro _ w1 ⟨rfl, hw1⟩
      conv => whnf
      exact ⟨_, ⟨rfl, trivial⟩, hw1, by rw [check_dec, k1]; cases decide (badF slot) <;> rfl⟩
  rintro β w1 ⟨hw1, hβ⟩
  subst hw1
  conv => whnf
  refine vcCond_split lok rfl (fun h1 => ?_) (fun h1 => ?_)
  · rw [h1] at hβ
    have hz : checkF s slot ≠ 0 := by intro q; rw [decide_eq_true q] at hβ; cases hβ
    rw [headR_bad hz]
    conv => whnf
    exact ⟨rfl, Ext.refl _⟩
  have hz : checkF s slot = 0 := by
    by_cases q : checkF s slot = 0
    · exact q
    · rw [h1, decide_eq_false q] at hβ; cases hβ
  clear h1 hβ
  have hc := check_zero hz
  rw [headR_ok hz]
  have gp : ∃ p, p = atF n slot ∧ p + 768 ≤ s.ws.length := ⟨_, rfl, atF_le hc.2 h.room⟩
  obtain ⟨p, hp, hpl⟩ := gp
  rw [← hp]
  have hsm := h.small
  have hle := h.f.own.le.1
  conv => whnf
  refine vcDraw_go lok mixed (Ext w1) [9, 12] [0, 1, 2, 3, 4, 5, 6, 7, 8, 10, 11, 9, 12, 13, 14, 15] (by kernel_rfl) (fun w2 hw2 => ⟨hw2 ▸ Ext.drew w1, ?_⟩)
  have x2 : Ext w1 w2 := hw2 ▸ Ext.drew w1
  clear hw2
  conv => whnf
  refine ⟨_, fun w' hw' => (h.b.ext hw').cell (i := 0) rfl, ?_⟩
  conv => whnf
  refine ⟨_, fun w' hw' => (h.f.blk.ext hw').cell (i := 0) rfl, ?_⟩
  conv => whnf
  refine Calls.ret (rsplace_calls (h.ext x2) slot hc.2) ?_
  rintro _ w3 ⟨rfl, hw3⟩
  subst hw3
  refine ⟨_, fun _ h => h, x2, ?_⟩
  conv => whnf
  refine Calls.ret (rsplace_calls (h.ext x2) slot hc.2) ?_
  rintro _ w4 ⟨rfl, hw4⟩
  subst hw4
  refine ⟨_, fun _ h => h, x2, ?_⟩
  conv => whnf
  rw [← hp]
  refine ⟨by omega, ?_⟩
  conv => whnf
  refine ⟨⟨by omega, by omega, by omega⟩, ?_⟩
  intro b hb
  have hmid := Sl.mid (h.ext x2).f.own.sl p (p + 36) c (by omega) (by omega) hle
  rw [show p + 36 - p = 36 by omega] at hmid
  have hb : b = if c = p then (some ⟨gw, 0, none⟩ : Option Addr) else (some ⟨gw, 0, none⟩ : Option Addr).map (·.add (p * 1)) := hb
  rw [← hb] at hmid
  clear hb
  have gv : ∃ v, v = (s.ws.drop p).take 36 ∧ v.length = 36 := ⟨_, rfl, by rw [List.length_take, List.length_drop]; omega⟩
  obtain ⟨v, hv, hvl⟩ := gv
  rw [← hv] at hmid
  have e0 : v.getD 0 0#32 = s.ws.getD p 0#32 := by rw [hv, take_get0 _ _ _ (by decide), drop_get0]; rfl
  have e1 : v.getD 1 0#32 = s.ws.getD (p + 1) 0#32 := by rw [hv, take_get0 _ _ _ (by decide), drop_get0]
  have e2 : v.getD 2 0#32 = s.ws.getD (p + 2) 0#32 := by rw [hv, take_get0 _ _ _ (by decide), drop_get0]
  clear hv
  have hcs := headW_cases s.ws p
  rw [← e0, ← e1, ← e2] at hcs
  clear e0 e1 e2
  rw [show (((p : Nat) : Int) + 36).toNat - ((p : Nat) : Int).toNat = v.length by omega]
  conv => whnf
  refine vcReg_meet lok (fun β : Bool => [(61, .bool β)]) (fun β w' => w' = w4 ∧ β = !decide ((v.getD 2 0#32).toNat = 0 ∧ 1 ≤ (v.getD 0 0#32).toNat ∧ (v.getD 0 0#32).toNat ≤ 4294967294 ∧ 1 ≤ (v.getD 1 0#32).toNat ∧ (v.getD 1 0#32).toNat ≤ 2048)) [61] (fun _ => rfl) rfl ?_ ?_
  · conv => whnf
    have g30 := sl_get (hmid) (2) (2) (by omega) (by omega)
    obtain ⟨p30, o30, ha30, hb30, hcell30⟩ := g30
    refine ⟨p30, o30, ha30, hb30, ?_⟩
    conv => whnf
    refine ⟨_, hcell30, ?_⟩
    conv => whnf
    refine bcase (fun k1 => ?_) (fun k1 => ?_)
    · have k1 : ¬ (((v.getD 2 0#32).toNat : Int) = 0) := by simpa using k1
      conv => whnf
      exact ⟨_, ⟨rfl, trivial⟩, rfl, by rw [decide_eq_false (by omega)]; rfl⟩
    have k1 : ((v.getD 2 0#32).toNat : Int) = 0 := by
      by_cases q : ((v.getD 2 0#32).toNat : Int) = 0
      · exact q
      · rw [decide_eq_false q] at k1; cases k1
    conv => whnf
    have g33 := sl_get (hmid) (0) (0) (by omega) (by omega)
    obtain ⟨p33, o33, ha33, hb33, hcell33⟩ := g33
    refine ⟨p33, o33, ha33, hb33, ?_⟩
    conv => whnf
    refine ⟨_, hcell33, ?_⟩
    conv => whnf
    refine bcase (fun k2 => ?_) (fun k2 => ?_)
    · have k2 := dt k2
      conv => whnf
      exact ⟨_, ⟨rfl, trivial⟩, rfl, by rw [decide_eq_false (by omega)]; rfl⟩
    have k2 := df k2
    conv => whnf
    have g36 := sl_get (hmid) (0) (0) (by omega) (by omega)
    obtain ⟨p36, o36, ha36, hb36, hcell36⟩ := g36
    refine ⟨p36, o36, ha36, hb36, ?_⟩
    conv => whnf
    refine ⟨_, hcell36, ?_⟩
    conv => whnf
    refine bcase (fun k3 => ?_) (fun k3 => ?_)
    · have k3 := dt k3
      conv => whnf
      exact ⟨_, ⟨rfl, trivial⟩, rfl, by rw [decide_eq_false (by omega)]; rfl⟩
    have k3 := df k3
    conv => whnf
    have g39 := sl_get (hmid) (1) (1) (by omega) (by omega)
    obtain ⟨p39, o39, ha39, hb39, hcell39⟩ := g39
    refine ⟨p39, o39, ha39, hb39, ?_⟩
    conv => whnf
    refine ⟨_, hcell39, ?_⟩
    conv => whnf
    refine bcase (fun k4 => ?_) (fun k4 => ?_)
    · have k4 := dt k4
      conv => whnf
      exact ⟨_, ⟨rfl, trivial⟩, rfl, by rw [decide_eq_false (by omega)]; rfl⟩
    have k4 := df k4
    conv => whnf
    have g42 := sl_get (hmid) (1) (1) (by omega) (by omega)
    obtain ⟨p42, o42, ha42, hb42, hcell42⟩ := g42
    refine ⟨p42, o42, ha42, hb42, ?_⟩
    conv => whnf
    refine ⟨_, hcell42, ?_⟩
    conv => whnf
    refine ⟨_, ⟨rfl, trivial⟩, rfl, ?_⟩
    by_cases k5 : (v.getD 1 0#32).toNat ≤ 2048
    · rw [decide_eq_false (by omega), decide_eq_true (by omega)]; rfl
    · rw [decide_eq_true (by omega), decide_eq_false (by omega)]; rfl
  rintro β w5 ⟨hw5, hβ⟩
  subst hw5
  rcases hcs with ⟨q1, q2, q3, q4, q5, q6⟩ | ⟨q1, q6⟩
  rotate_left
  · rw [decide_eq_false q1] at hβ
    subst hβ
    rw [q6]
    conv => whnf
    refine vcCond_true lok (rfl) ?_
    conv => whnf
    exact ⟨rfl, x2⟩
  rw [decide_eq_true ⟨q1, q2, q3, q4, q5⟩] at hβ
  subst hβ
  rw [q6]
  conv => whnf
  refine vcCond_false lok (rfl) ?_
  conv => whnf
  refine vcDraw_go lok mixed (fun w' => w' = w5.drew) [] [0, 1, 2, 3, 4, 5, 6, 7, 8, 9] (by kernel_rfl) (fun w6 hw6 => ⟨hw6, ?_⟩)
  have x6 : Ext w5 w6 := hw6 ▸ Ext.drew w5
  have hm6 := hmid.ext x6
  conv => whnf
  have g48 := sl_get (hm6) (0) (0) (by omega) (by omega)
  obtain ⟨p48, o48, ha48, hb48, hcell48⟩ := g48
  refine ⟨p48, o48, ha48, hb48, ?_⟩
  conv => whnf
  refine ⟨_, fun w' hw' => by rw [hw', ← hw6]; exact hcell48, ?_⟩
  conv => whnf
  have g49 := sl_get (hm6) (1) (1) (by omega) (by omega)
  obtain ⟨p49, o49, ha49, hb49, hcell49⟩ := g49
  refine ⟨p49, o49, ha49, hb49, ?_⟩
  conv => whnf
  refine ⟨_, fun w' hw' => by rw [hw', ← hw6]; exact hcell49, ?_⟩
  conv => whnf
  intro z hz
  have hz50 : z = ((v.getD 1 0#32).toNat : Int) := by rw [hz]; exact wi64 (by omega)
  clear hz
  subst hz50
  conv => whnf
  exact ⟨rfl, x2.trans x6⟩
end
end Go.Proofs.Ytgipackjnncabaa

/- Walks of layer 22: the document's slots: the chunks that are there, sealed, whole, dropped, sealing. -/
set_option linter.unusedVariables false
namespace Go.Proofs.Ytgipackjnncabaa
open Go.Vc Go.RowKit

theorem check_off {s : FS} {slot : Int} (h : s.off = true) : checkF s slot = 7 := by unfold checkF; rw [if_pos h]
theorem check_bad {s : FS} {slot : Int} (h : s.off = false) (hb : badF slot) : checkF s slot = 1 := by unfold checkF; rw [if_neg (by rw [h]; simp), if_pos hb]
theorem two_pow_next (k : Nat) : (2 * ((BitVec.twoPow 32 k).toNat : Int)) % 4294967296 = ((BitVec.twoPow 32 (k + 1)).toNat : Int) := by
  rw [BitVec.toNat_twoPow, BitVec.toNat_twoPow, show 2 ^ (k + 1) = 2 ^ k * 2 from Nat.pow_succ 2 k]
  generalize 2 ^ k = y
  omega
section
variable {B : Nat} {w w' : World} {rb g gw c n i : Nat} {s t : FS}
set_option maxHeartbeats 2000000 in
/-- Have -/
theorem rshave_calls (h : RsAt B w rb g gw c n s) (slot : Int) : Calls Try.prog 181 #[.pointer (some ⟨rb, 0, none⟩), .int .i64 slot] w
    (Ret fun r w' => r = .tuple #[.int .u32 (haveF s n slot).1.toNat, .bool (haveF s n slot).2] ∧ Ext w w') := by
  rw [haveF_eq]
  have hsz := headR_size s n slot
  have hyes := headR_yes (s := s) (n := n) (slot := slot)
  refine calls_of_vc lok Try.func181 ?_ rfl
  conv => whnf
  refine Calls.ret (rshead_calls h slot) ?_
  rintro _ w1 ⟨rfl, x1⟩
  conv => whnf
  have gH : ∃ H, H = headR s n slot := ⟨_, rfl⟩
  obtain ⟨H, hH⟩ := gH
  rw [← hH] at hsz hyes ⊢
  clear hH
  obtain ⟨hv, hm, hb⟩ := H
  simp only at hsz hyes
  have h1 := h.ext x1
  conv => whnf
  refine vcCond_split lok rfl (fun h2 => ?_) (fun h2 => ?_)
  · have h2 : hb = false := by simpa using h2
    subst h2
    rw [if_neg (by simp)]
    conv => whnf
    exact ⟨rfl, x1⟩
  have h2 : hb = true := by simpa using h2
  subst h2
  rw [if_pos rfl]
  have hz := check_zero (hyes rfl)
  clear hyes
  have hpl := atF_le hz.2 h.room
  have hsm := h.small
  conv => whnf
  refine vcLoop_inv lok (σ := Nat)
    (fun k => [(12, .int .i64 k), (9, .int .u32 (haveB s.ws (atF n slot) hm k).toNat), (10, .int .u32 (BitVec.twoPow 32 k).toNat), (11, .bool (allB s.ws (atF n slot) hm k)), (7, .int .i64 hm), (0, .pointer (some ⟨rb, 0, none⟩)), (1, .int .i64 slot)])
    (fun k w' => k ≤ 32 ∧ RsAt B w' rb g gw c n s ∧ Ext w w') (fun k => 32 - k)
    0 ⟨rfl, rfl, rfl, rfl, rfl, rfl, rfl, trivial⟩ ⟨Nat.zero_le _, h1, x1⟩ ?_
  rintro k w2 ⟨hk, h2, x2⟩
  conv => whnf
  refine vcCond_split lok rfl (fun h3 => ?_) (fun h3 => ?_)
  rotate_left
  · have h3 := df h3
    conv => whnf
    have e : k = 32 := by omega
    subst e
    exact ⟨rfl, x2⟩
  have h3 := dt h3
  conv => whnf
  have hk32 : k < 32 := by omega
  have ebit : bitB s.ws (atF n slot) hm k = decide (64 * k < hm ∧ s.ws.getD (atF n slot + 3 + k) 0#32 = 0#32) := rfl
  have eall : allB s.ws (atF n slot) hm (k + 1) = (allB s.ws (atF n slot) hm k && decide (64 * k < hm → s.ws.getD (atF n slot + 3 + k) 0#32 = 0#32)) := allB_succ _ _ _ _
  have ehave : haveB s.ws (atF n slot) hm (k + 1) = haveB s.ws (atF n slot) hm k ||| (if bitB s.ws (atF n slot) hm k = true then BitVec.twoPow 32 k else 0#32) := rfl
  refine Calls.ret (rlong_calls hm hsz k (by omega)) ?_
  rintro _ w3 ⟨rfl, hw3⟩
  subst hw3
  have gL : ∃ L : Int, L = if (0 : Int) ≤ (k : Int) ∧ (k : Int) < 32 ∧ 64 * (k : Int) < hm then (lenC hm (k : Int).toNat : Int) else 0 := ⟨_, rfl⟩
  obtain ⟨L, hL⟩ := gL
  rw [← hL]
  conv => whnf
  have hlen : 64 * k < hm → 1 ≤ lenC hm k := fun q => by unfold lenC; omega
  refine vcCond_meet (fun _ : Unit => [(12, .int .i64 k), (9, .int .u32 (haveB s.ws (atF n slot) hm (k + 1)).toNat), (10, .int .u32 (BitVec.twoPow 32 k).toNat), (11, .bool (allB s.ws (atF n slot) hm (k + 1))), (7, .int .i64 hm), (0, .pointer (some ⟨rb, 0, none⟩)), (1, .int .i64 slot)])
    (fun _ w' => Ext w3 w') ?_ ?_
  · refine vcCond_split lok rfl (fun h4 => ?_) (fun h4 => ?_)
    · have h4 := dt h4
      have hkm : 64 * k < hm := by
        by_cases q : 64 * k < hm
        · exact q
        · rw [if_neg (by omega)] at hL; omega
      conv => whnf
      refine vcDraw_go lok mixed (Ext w3) [9] [0, 1, 2, 3, 4, 5, 6, 7, 8, 11, 9, 10, 12, 13, 14, 15] (by kernel_rfl) (fun w4 hw4 => ⟨hw4 ▸ Ext.drew w3, ?_⟩)
      have x4 : Ext w3 w4 := hw4 ▸ Ext.drew w3
      clear hw4
      conv => whnf
      refine ⟨_, fun w' hw' => (h2.b.ext hw').cell (i := 0) rfl, ?_⟩
      conv => whnf
      refine ⟨_, fun w' hw' => (h2.f.blk.ext hw').cell (i := 0) rfl, ?_⟩
      conv => whnf
      refine Calls.ret (rsplace_calls (h2.ext x4) slot hz.2) ?_
      rintro _ w5 ⟨rfl, hw5⟩
      subst hw5
      refine ⟨_, fun _ h => h, x4, ?_⟩
      conv => whnf
      have gp : ∃ p, p = atF n slot := ⟨_, rfl⟩
      obtain ⟨p, hp⟩ := gp
      rw [← hp] at hpl ebit eall ehave ⊢
      refine ⟨by omega, ?_⟩
      conv => whnf
      refine ⟨by omega, ?_⟩
      conv => whnf
      have g20 := sl_get (h2.f.own.sl) ((p : Int) + 3 + (k : Int)) (p + 3 + k) (by omega) (by omega)
      obtain ⟨p20, o20, ha20, hb20, hcell20⟩ := g20
      refine ⟨p20, o20, ha20, hb20, ?_⟩
      conv => whnf
      refine ⟨_, fun w' hw' => Below.cell_of hw' (cell_lt hcell20) hcell20, ?_⟩
      conv => whnf
      have ed : decide (((s.ws.getD (p + 3 + k) 0#32).toNat : Int) = 0) = decide (s.ws.getD (p + 3 + k) 0#32 = 0#32) := decide_eq_decide.2 num_zero
      rw [ed]
      refine vcCond_split lok rfl (fun h5 => ?_) (fun h5 => ?_)
      · have h5 := dt h5
        rw [h5] at ebit eall
        rw [decide_eq_true ⟨hkm, rfl⟩] at ebit
        rw [decide_eq_true (fun _ => rfl), Bool.and_true] at eall
        rw [ebit, if_pos rfl] at ehave
        rw [eall, ehave, ← haveB_add s.ws p hm k hk32]
        conv => whnf
        intro z hz
        have hz23 : z = ((haveB s.ws p hm k + BitVec.twoPow 32 k).toNat : Int) := by rw [hz, wu32, BitVec.toNat_add]; omega
        clear hz
        subst hz23
        conv => whnf
        exact ⟨(), ⟨rfl, rfl, rfl, rfl, rfl, rfl, rfl, trivial⟩, x4⟩
      · have h5 := df h5
        rw [decide_eq_false (fun q => h5 q.2)] at ebit
        rw [decide_eq_false (fun q => h5 (q hkm)), Bool.and_false] at eall
        rw [ebit, if_neg (by simp), BitVec.or_zero] at ehave
        rw [eall, ehave]
        conv => whnf
        exact ⟨(), ⟨rfl, rfl, rfl, rfl, rfl, rfl, rfl, trivial⟩, x4⟩
    · have h4 := df h4
      have hkm : ¬ 64 * k < hm := by
        intro q
        have := hlen q
        rw [if_pos (by omega), Int.toNat_natCast] at hL
        omega
      rw [decide_eq_false (fun q => hkm q.1)] at ebit
      rw [decide_eq_true (fun q => absurd q hkm), Bool.and_true] at eall
      rw [ebit, if_neg (by simp), BitVec.or_zero] at ehave
      rw [eall, ehave]
      conv => whnf
      exact ⟨(), ⟨rfl, rfl, rfl, rfl, rfl, rfl, rfl, trivial⟩, Ext.refl _⟩
  rintro ⟨⟩ w4 x4
  conv => whnf
  intro z hz
  have hz27 : z = ((BitVec.twoPow 32 (k + 1)).toNat : Int) := by rw [hz, wu32]; exact two_pow_next k
  clear hz
  subst hz27
  conv => whnf
  refine ⟨by omega, ?_⟩
  conv => whnf
  exact ⟨k + 1, ⟨rfl, rfl, rfl, rfl, rfl, rfl, rfl, trivial⟩, ⟨by omega, h2.ext x4, x2.trans x4⟩, by omega⟩

/-- Sealed -/
theorem rssealed_calls (h : RsAt B w rb g gw c n s) (slot : Int) : Calls Try.prog 179 #[.pointer (some ⟨rb, 0, none⟩), .int .i64 slot] w (Ret fun r w' => r = .bool (sealedF s n slot) ∧ Ext w w') := by
  have hyes := haveF_yes (s := s) (n := n) (slot := slot)
  unfold sealedF
  refine calls_of_vc lok Try.func179 ?_ rfl
  conv => whnf
  refine Calls.ret (rshave_calls h slot) ?_
  rintro _ w1 ⟨rfl, x1⟩
  conv => whnf
  have gH : ∃ H, H = haveF s n slot := ⟨_, rfl⟩
  obtain ⟨H, hH⟩ := gH
  rw [← hH] at hyes ⊢
  clear hH
  obtain ⟨hv, hb⟩ := H
  simp only at hyes ⊢
  have h1 := h.ext x1
  conv => whnf
  refine vcDraw_meet lok mixed (Ext w1) [11] [0, 1, 2, 3, 4, 5, 6, 7, 8, 9, 10, 11, 12, 13, 14, 15, 16, 17] (fun β : Bool => [(4, .bool β)])
    (fun β w' => β = (hb && decide (s.ws.getD (atF n slot + 35) 0#32 = 0#32)) ∧ Ext w1 w') [4] (fun _ => rfl) rfl (by kernel_rfl) (fun w2 hw2 => ⟨hw2 ▸ Ext.drew w1, ?_⟩) ?_
  · have x2 : Ext w1 w2 := hw2 ▸ Ext.drew w1
    clear hw2
    conv => whnf
    refine bcase (fun k1 => ?_) (fun k1 => ?_)
    · have hz := check_zero (hyes k1)
      have hpl := atF_le hz.2 h.room
      have hsm := h.small
      conv => whnf
      refine ⟨_, fun w' hw' => (h1.b.ext hw').cell (i := 0) rfl, ?_⟩
      conv => whnf
      refine ⟨_, fun w' hw' => (h1.f.blk.ext hw').cell (i := 0) rfl, ?_⟩
      conv => whnf
      refine Calls.ret (rsplace_calls (h1.ext x2) slot hz.2) ?_
      rintro _ w5 ⟨rfl, hw5⟩
      subst hw5
      refine ⟨_, fun _ h => h, x2, ?_⟩
      conv => whnf
      have gp : ∃ p, p = atF n slot := ⟨_, rfl⟩
      obtain ⟨p, hp⟩ := gp
      rw [← hp] at hpl ⊢
      refine ⟨by omega, ?_⟩
      conv => whnf
      have g38 := sl_get (h1.f.own.sl) ((p : Int) + 35) (p + 35) (by omega) (by omega)
      obtain ⟨p38, o38, ha38, hb38, hcell38⟩ := g38
      refine ⟨p38, o38, ha38, hb38, ?_⟩
      conv => whnf
      refine ⟨_, fun w' hw' => Below.cell_of hw' (cell_lt hcell38) hcell38, ?_⟩
      conv => whnf
      refine ⟨_, ⟨rfl, trivial⟩, ?_, x2⟩
      rw [k1]
      exact decide_eq_decide.2 num_zero
    · conv => whnf
      exact ⟨_, ⟨rfl, trivial⟩, by rw [k1]; rfl, x2⟩
  rintro β w2 ⟨rfl, x2⟩
  conv => whnf
  exact ⟨rfl, x1.trans x2⟩

theorem whole_off {s : FS} {n : Nat} {slot : Int} (h : s.off = true) : (wholeSF s n slot).2 = 7 := by
  unfold wholeSF
  rw [check_off h, if_pos (by decide)]
theorem whole_bad {s : FS} {n : Nat} {slot : Int} (h : s.off = false) (hb : badF slot) : (wholeSF s n slot).2 = 1 := by
  unfold wholeSF
  rw [check_bad h hb, if_pos (by decide)]
/-- whole -/
theorem rswhole_calls (h : RsAt B w rb g gw c n s) (slot : Int) : Calls Try.prog 180 #[.pointer (some ⟨rb, 0, none⟩), .int .i64 slot] w (Ret fun r w' => r = .int .i64 (wholeSF s n slot).2 ∧ Ext w w') := by
  refine calls_of_vc lok Try.func180 ?_ rfl
  conv => whnf
  refine Calls.ret (rshead_calls h slot) ?_
  rintro _ w1 ⟨rfl, x1⟩
  conv => whnf
  refine Calls.ret (rshave_calls (h.ext x1) slot) ?_
  rintro _ w2 ⟨rfl, x2⟩
  conv => whnf
  have x02 := x1.trans x2
  have h2 := h.ext x02
  have ewh := whole_head (s := s) (n := n) (slot := slot)
  have gH : ∃ H, H = headR s n slot := ⟨_, rfl⟩
  obtain ⟨H, hH⟩ := gH
  rw [← hH] at ewh ⊢
  clear hH
  have gV : ∃ V, V = haveF s n slot := ⟨_, rfl⟩
  obtain ⟨V, hV⟩ := gV
  rw [← hV] at ewh ⊢
  clear hV
  obtain ⟨a, m, hb⟩ := H
  obtain ⟨v, hv⟩ := V
  simp only at ewh
  conv => whnf
  refine ⟨_, h2.b.cell (i := 0) rfl, ?_⟩
  conv => whnf
  refine ⟨_, h2.f.blk.cell (i := 1) rfl, ?_⟩
  conv => whnf
  refine vcCond_split lok rfl (fun k1 => ?_) (fun k1 => ?_)
  · conv => whnf
    exact ⟨by rw [whole_off k1], x02⟩
  conv => whnf
  refine Calls.ret (rsbad_calls slot) ?_
  rintro _ w3 ⟨rfl, hw3⟩
  conv => whnf
  subst hw3
  refine vcCond_split lok rfl (fun k2 => ?_) (fun k2 => ?_)
  · have k2 := dt k2
    conv => whnf
    exact ⟨by rw [whole_bad k1 k2], x02⟩
  have k2 := df k2
  have ewh := ewh (check_ok k1 k2)
  conv => whnf
  refine vcCond_split lok rfl (fun k3 => ?_) (fun k3 => ?_)
  · have k3 : hb = false := by simpa using k3
    rw [k3, if_neg (by simp)] at ewh
    rw [ewh]
    conv => whnf
    exact ⟨rfl, x02⟩
  have k3 : hb = true := by simpa using k3
  rw [k3, if_pos rfl] at ewh
  conv => whnf
  refine vcCond_split lok rfl (fun k4 => ?_) (fun k4 => ?_)
  · have k4 : hv = false := by simpa using k4
    rw [k4, if_neg (by simp)] at ewh
    rw [ewh]
    conv => whnf
    exact ⟨rfl, x02⟩
  have k4 : hv = true := by simpa using k4
  rw [k4, if_pos rfl] at ewh
  rw [ewh]
  conv => whnf
  exact ⟨rfl, x02⟩

/-- Drop -/
theorem rsdrop_calls (h : RsAt B w rb g gw c n s) (slot : Int) (hop : Num s s.ws.length i) (hi : i ≤ 2305843009213693952) :
    Calls Try.prog 137 #[.pointer (some ⟨rb, 0, none⟩), .int .i64 slot] w (Ret fun v w' => v = .int .i64 (dropSF s n slot).2 ∧ RsAt B w' rb g gw c n (dropSF s n slot).1 ∧ FlMod g gw w w') := by
  have hr := h.room
  have hsm := h.small
  refine calls_of_vc lok Try.func137 ?_ rfl
  conv => whnf
  refine ⟨_, h.b.cell (i := 0) rfl, ?_⟩
  conv => whnf
  refine ⟨_, h.f.blk.cell (i := 1) rfl, ?_⟩
  conv => whnf
  refine vcCond_split lok rfl (fun k1 => ?_) (fun k1 => ?_)
  · have e : dropSF s n slot = (s, 7) := by unfold dropSF; rw [check_off k1, if_pos (by decide)]
    rw [e]
    conv => whnf
    exact ⟨rfl, h, Mod.refl _ _⟩
  conv => whnf
  refine Calls.ret (rsbad_calls slot) ?_
  rintro _ w1 ⟨rfl, hw1⟩
  conv => whnf
  subst hw1
  refine vcCond_split lok rfl (fun k2 => ?_) (fun k2 => ?_)
  · have k2 := dt k2
    have e : dropSF s n slot = (s, 1) := by unfold dropSF; rw [check_bad k1 k2, if_pos (by decide)]
    rw [e]
    conv => whnf
    exact ⟨rfl, h, Mod.refl _ _⟩
  have k2 := df k2
  have e : dropSF s n slot = eraseF s ((n + 3 * slot.toNat : Nat) : Int) := by unfold dropSF; rw [check_ok k1 k2, if_neg (by simp)]
  rw [e]
  have hlen : (eraseF s ((n + 3 * slot.toNat : Nat) : Int)).1.ws.length = s.ws.length := (hop.erase _).len
  unfold badF at k2
  conv => whnf
  refine vcDraw_go lok mixed (fun w' => w' = w1.drew) [] [0, 1, 2, 3, 4, 5, 6, 7, 8, 9, 10, 11, 12] (by kernel_rfl) (fun w2 hw2 => ⟨hw2, ?_⟩)
  have x2 : Ext w1 w2 := hw2 ▸ Ext.drew w1
  have h2 := h.ext x2
  conv => whnf
  refine ⟨_, fun w' hw' => by rw [hw', ← hw2]; exact h2.b.cell (i := 0) rfl, ?_⟩
  conv => whnf
  refine ⟨_, fun w' hw' => by rw [hw', ← hw2]; exact h2.b.cell (i := 1) rfl, ?_⟩
  conv => whnf
  refine ⟨by omega, ?_⟩
  conv => whnf
  refine ⟨by omega, ?_⟩
  conv => whnf
  rw [show (n : Int) + 3 * slot = ((n + 3 * slot.toNat : Nat) : Int) by omega]
  refine Calls.ret (rerase_calls h2.f _ (by omega) (hop.ok (by omega))) ?_
  rintro _ w3 ⟨rfl, f3, m3⟩
  conv => whnf
  exact ⟨rfl, h2.next f3 m3 hlen, (Mod.ofExt _ x2).trans m3⟩

/-- Seal -/
theorem rsseal_calls (h : RsAt B w rb g gw c n s) (slot : Int) (hop : Num s s.ws.length i) (hi : i ≤ 2305843009213693952) : Calls Try.prog 136 #[.pointer (some ⟨rb, 0, none⟩), .int .i64 slot] w
    (Ret fun r w' => r = .int .i64 (sealSF s n slot).2 ∧ RsAt B w' rb g gw c n (sealSF s n slot).1 ∧ FlMod g gw w w') := by
  have hr := h.room
  have hsm := h.small
  have hwz : (wholeSF s n slot).2 = 0 → checkF s slot = 0 := by
    intro q
    by_cases q2 : checkF s slot = 0
    · exact q2
    · unfold wholeSF at q
      rw [if_pos q2] at q
      exact absurd q q2
  unfold sealSF
  refine calls_of_vc lok Try.func136 ?_ rfl
  conv => whnf
  refine Calls.ret (rswhole_calls h slot) ?_
  rintro _ w1 ⟨rfl, x1⟩
  conv => whnf
  have gE : ∃ E, E = wholeSF s n slot := ⟨_, rfl⟩
  obtain ⟨E, hE⟩ := gE
  rw [← hE] at hwz ⊢
  clear hE
  obtain ⟨m, e⟩ := E
  simp only at hwz ⊢
  have h1 := h.ext x1
  refine vcCond_split lok rfl (fun k1 => ?_) (fun k1 => ?_)
  · have k1 : ¬ e = 0 := by simpa using k1
    rw [if_neg k1]
    conv => whnf
    exact ⟨rfl, h1, Mod.ofExt _ x1⟩
  have k1 : e = 0 := by simpa using k1
  rw [if_pos k1]
  have hz := check_zero (hwz k1)
  have hpl := atF_le hz.2 h.room
  have hlen : (progF s ((atF n slot + 35 : Nat) : Int) 0#32).1.ws.length = s.ws.length := (hop.prog _ _).len
  conv => whnf
  refine vcDraw_go lok mixed (Ext w1) [6] [0, 1, 2, 3, 4, 5, 6, 7, 8, 9] (by kernel_rfl) (fun w2 hw2 => ⟨hw2 ▸ Ext.drew w1, ?_⟩)
  have x2 : Ext w1 w2 := hw2 ▸ Ext.drew w1
  clear hw2
  conv => whnf
  refine ⟨_, fun w' hw' => (h1.b.ext hw').cell (i := 0) rfl, ?_⟩
  conv => whnf
  refine Calls.ret (rsplace_calls (h1.ext x2) slot hz.2) ?_
  rintro _ w5 ⟨rfl, hw5⟩
  subst hw5
  refine ⟨_, fun _ h => h, x2, ?_⟩
  conv => whnf
  refine ⟨by omega, ?_⟩
  conv => whnf
  rw [show ((atF n slot : Nat) : Int) + 35 = ((atF n slot + 35 : Nat) : Int) by omega]
  refine Calls.ret (rprog_calls (h1.ext x2).f ((atF n slot + 35 : Nat) : Int) 0#32 (by omega) (hop.ok (by omega))) ?_
  rintro _ w6 ⟨rfl, f6, m6⟩
  conv => whnf
  exact ⟨rfl, (h1.ext x2).next f6 m6 hlen, (Mod.ofExt _ (x1.trans x2)).trans m6⟩
end
end Go.Proofs.Ytgipackjnncabaa

/- Walks of layer 22: the document's slots: begun, written. -/
set_option linter.unusedVariables false
namespace Go.Proofs.Ytgipackjnncabaa
open Go.Vc Go.RowKit

theorem canN_iff (v : BitVec 32) (m : Int) : canN v m ↔ 1 ≤ v.toNat ∧ v.toNat ≤ 4294967294 ∧ 1 ≤ m ∧ m ≤ 2048 := by
  have h1 : v = 0#32 ↔ v.toNat = 0 := by rw [← BitVec.toNat_inj]; exact Iff.rfl
  have h2 : v = ones ↔ v.toNat = 4294967295 := by rw [← BitVec.toNat_inj]; exact Iff.rfl
  have hl := v.isLt
  unfold canN
  constructor
  · rintro ⟨a, b, c, d⟩
    have a : v.toNat ≠ 0 := fun e => a (h1.2 e)
    have b : v.toNat ≠ 4294967295 := fun e => b (h2.2 e)
    omega
  · rintro ⟨a, b, c, d⟩
    refine ⟨fun e => ?_, fun e => ?_, c, d⟩
    · have := h1.1 e; omega
    · have := h2.1 e; omega
theorem erase_code (t : FS) (k : Nat) (hk : k < t.ws.length / 256) : (eraseF t k).2 = 0 ∨ (eraseF t k).2 = 7 := by
  unfold eraseF
  split
  · exact .inr rfl
  · rw [if_neg (by omega)]
    split
    · exact .inr rfl
    · exact .inl rfl

theorem run_words3 (w : World) (x y z : BitVec 32) : ∃ w', (Instr.buildSlice 37 3 #[(0, u32v x), (1, u32v y), (2, u32v z)]).run Try.prog w = .ok (.slice (some ⟨w.heap.size, 0, none⟩) 3 3) w' ∧ Own 42 u32v w.heap.size w' (some ⟨w.heap.size, 0, none⟩) 3 [x, y, z] ∧ Ext w w' := by
  have g := run_buildN (P := Try.prog) (t := 37) (e := 42) e32.toElem [u32v x, u32v y, u32v z] (by simp [u32v, Value.oneCell']) (by simp) w
  exact ⟨_, g, own_lit (w := w) [x, y, z] (by simp), Ext.new _ _⟩
section
variable {B : Nat} {w w' : World} {rb g gw c n i : Nat} {s t : FS}
set_option maxHeartbeats 4000000 in
/-- Begin -/
theorem rsbegin_calls (h : RsAt B w rb g gw c n s) (slot : Int) (v : BitVec 32) (m : Int) (hop : Num s s.ws.length i) (hi : i ≤ 1152921504606846976) :
    Calls Try.prog 134 #[.pointer (some ⟨rb, 0, none⟩), .int .i64 slot, .int .u32 v.toNat, .int .i64 m] w (Ret fun r w' => r = .int .i64 (beginSF s n slot v m).2 ∧ RsAt B w' rb g gw c n (beginSF s n slot v m).1 ∧ FlMod g gw w w') := by
  have hr := h.room
  have hsm := h.small
  have hcan := canN_iff v m
  refine calls_of_vc lok Try.func134 ?_ rfl
  conv => whnf
  refine ⟨_, h.b.cell (i := 0) rfl, ?_⟩
  conv => whnf
  refine ⟨_, h.f.blk.cell (i := 1) rfl, ?_⟩
  conv => whnf
  refine vcCond_split lok rfl (fun k1 => ?_) (fun k1 => ?_)
  · have e : beginSF s n slot v m = (s, 7) := by unfold beginSF; rw [check_off k1, if_pos (by decide)]
    rw [e]
    conv => whnf
    exact ⟨rfl, h, Mod.refl _ _⟩
  conv => whnf
  refine vcReg_meet lok (fun β : Bool => [(36, .bool β)]) (fun β w' => w' = w ∧ β = !decide (¬ badF slot ∧ canN v m)) [36] (fun _ => rfl) rfl ?_ ?_
  · conv => whnf
    refine Calls.ret (rsbad_calls slot) ?_
    rintro _ w1 ⟨rfl, hw1⟩
    conv => whnf
    subst hw1
    refine bcase (fun q1 => ?_) (fun q1 => ?_)
    · have q1 := dt q1
      conv => whnf
      exact ⟨_, ⟨rfl, trivial⟩, rfl, by rw [decide_eq_false (fun q => q.1 q1)]; rfl⟩
    have q1 := df q1
    conv => whnf
    refine bcase (fun q2 => ?_) (fun q2 => ?_)
    · have q2 := dt q2
      conv => whnf
      exact ⟨_, ⟨rfl, trivial⟩, rfl, by rw [decide_eq_false (fun q => by have := hcan.1 q.2; omega)]; rfl⟩
    have q2 := df q2
    conv => whnf
    refine bcase (fun q3 => ?_) (fun q3 => ?_)
    · have q3 := dt q3
      conv => whnf
      exact ⟨_, ⟨rfl, trivial⟩, rfl, by rw [decide_eq_false (fun q => by have := hcan.1 q.2; omega)]; rfl⟩
    have q3 := df q3
    conv => whnf
    refine bcase (fun q4 => ?_) (fun q4 => ?_)
    · have q4 := dt q4
      conv => whnf
      exact ⟨_, ⟨rfl, trivial⟩, rfl, by rw [decide_eq_false (fun q => by have := hcan.1 q.2; omega)]; rfl⟩
    have q4 := df q4
    conv => whnf
    refine ⟨_, ⟨rfl, trivial⟩, rfl, ?_⟩
    by_cases q5 : m ≤ 2048
    · rw [decide_eq_false (by omega), decide_eq_true ⟨q1, hcan.2 (by omega)⟩]; rfl
    · rw [decide_eq_true (by omega), decide_eq_false (fun q => by have := hcan.1 q.2; omega)]; rfl
  rintro β w1 ⟨hw1, hβ⟩
  subst hw1
  conv => whnf
  refine vcCond_split lok rfl (fun h2 => ?_) (fun h2 => ?_)
  · rw [hβ] at h2
    have h2 : ¬ (¬ badF slot ∧ canN v m) := fun q => by rw [decide_eq_true q] at h2; cases h2
    have e : beginSF s n slot v m = (s, 1) := by
      unfold beginSF
      by_cases q : badF slot
      · rw [check_bad k1 q, if_pos (by decide)]
      · rw [check_ok k1 q, if_neg (by simp), if_pos (fun q2 => h2 ⟨q, q2⟩)]
    rw [e]
    conv => whnf
    exact ⟨rfl, h, Mod.refl _ _⟩
  rw [hβ] at h2
  have h2 : ¬ badF slot ∧ canN v m := by
    by_cases q : ¬ badF slot ∧ canN v m
    · exact q
    · rw [decide_eq_false q] at h2; cases h2
  clear hβ
  obtain ⟨hb, hcn⟩ := h2
  have ew : beginSF s n slot v m = if (eraseAllF s (n + 3 * slot.toNat) 3).2 = 0 then progAllF (eraseAllF s (n + 3 * slot.toNat) 3).1 (atF n slot) [v, BitVec.ofInt 32 m, 0#32]
      else ((eraseAllF s (n + 3 * slot.toNat) 3).1, 7) := by
    unfold beginSF
    rw [check_ok k1 hb, if_neg (by simp), if_neg (fun q => q hcn)]
  have hp := atF_le hb hr
  have hbs := hb
  unfold badF at hbs
  have hsl : ∃ k, k = n + 3 * slot.toNat ∧ k + 3 ≤ s.ws.length / 256 := ⟨_, rfl, by omega⟩
  obtain ⟨sec, hsec, hsec2⟩ := hsl
  rw [← hsec] at ew
  have gE : ∃ E, E = eraseAllF s sec 3 := ⟨_, rfl⟩
  obtain ⟨E3, hE⟩ := gE
  rw [← hE] at ew
  have gR : ∃ R, R = beginSF s n slot v m := ⟨_, rfl⟩
  obtain ⟨R, hR⟩ := gR
  rw [← hR] at ew ⊢
  clear hR
  conv => whnf
  refine vcLoop_inv lok (σ := Nat)
    (fun k => [(9, .int .i64 k), (0, .pointer (some ⟨rb, 0, none⟩)), (1, .int .i64 slot), (2, .int .u32 v.toNat), (3, .int .i64 m)])
    (fun k w' => k ≤ 3 ∧ ∃ sk, RsAt B w' rb g gw c n sk ∧ Num sk s.ws.length (i + k) ∧ FlMod g gw w1 w' ∧ E3 = eraseAllF sk (sec + k) (3 - k)) (fun k => 3 - k)
    0 ⟨rfl, rfl, rfl, rfl, rfl, trivial⟩ ⟨Nat.zero_le _, s, h, hop, Mod.refl _ _, hE⟩ ?_
  rintro k w3 ⟨hk, sk, h3, op3, m3, e3⟩
  have hl3 := op3.len
  conv => whnf
  refine vcCond_split lok rfl (fun h4 => ?_) (fun h4 => ?_)
  · have h4 := dt h4
    conv => whnf
    have hk3 : k < 3 := by omega
    rw [show 3 - k = (3 - (k + 1)) + 1 by omega, eraseAllF] at e3
    have hcode := erase_code sk (sec + k) (by omega)
    refine vcDraw_meet lok mixed (fun w' => w' = w3.drew) [] [0, 1, 2, 3, 4, 5, 6, 7, 8, 9, 10, 11, 12, 13, 14] (fun β : Bool => [(55, .bool β)])
      (fun β w' => β = !decide ((eraseF sk (sec + k : Nat)).2 = 0) ∧ RsAt B w' rb g gw c n (eraseF sk (sec + k : Nat)).1 ∧ FlMod g gw w1 w') [55] (fun _ => rfl) rfl (by kernel_rfl) (fun w4 hw4 => ⟨hw4, ?_⟩) ?_
    · have x4 : Ext w3 w4 := hw4 ▸ Ext.drew w3
      have h4 := h3.ext x4
      conv => whnf
      refine ⟨_, fun w' hw' => by rw [hw', ← hw4]; exact h4.b.cell (i := 0) rfl, ?_⟩
      conv => whnf
      refine ⟨_, fun w' hw' => by rw [hw', ← hw4]; exact h4.b.cell (i := 1) rfl, ?_⟩
      conv => whnf
      refine ⟨by omega, ?_⟩
      conv => whnf
      refine ⟨by omega, ?_⟩
      conv => whnf
      refine ⟨by omega, ?_⟩
      conv => whnf
      rw [show (n : Int) + 3 * slot + (k : Int) = ((sec + k : Nat) : Int) by omega]
      refine Calls.ret (rerase_calls h4.f ((sec + k : Nat) : Int) (by omega) (op3.ok (by omega))) ?_
      rintro _ w6 ⟨rfl, f6, m6⟩
      conv => whnf
      exact ⟨_, ⟨rfl, trivial⟩, rfl, h4.next f6 m6 (eraseF_le sk _).len, (m3.trans (Mod.ofExt _ x4)).trans m6⟩
    rintro β w4 ⟨hβ, h5, m5⟩
    conv => whnf
    refine vcCond_split lok rfl (fun h6 => ?_) (fun h6 => ?_)
    · rw [hβ] at h6
      have h6 : ¬ (eraseF sk ((sec + k : Nat) : Int)).2 = 0 := fun q => by rw [decide_eq_true q] at h6; cases h6
      rw [if_neg h6] at e3
      rw [e3, if_neg h6] at ew
      rw [ew]
      conv => whnf
      exact ⟨rfl, h5, m5⟩
    · rw [hβ] at h6
      have h6 : (eraseF sk ((sec + k : Nat) : Int)).2 = 0 := by
        by_cases q : (eraseF sk ((sec + k : Nat) : Int)).2 = 0
        · exact q
        · rw [decide_eq_false q] at h6; cases h6
      rw [if_pos h6] at e3
      conv => whnf
      refine ⟨by omega, ?_⟩
      conv => whnf
      exact ⟨k + 1, ⟨rfl, rfl, rfl, rfl, rfl, trivial⟩, ⟨by omega, _, h5, (op3.erase _).up (by omega), m5, e3⟩, by omega⟩
  have h4 := df h4
  conv => whnf
  have hk3 : k = 3 := by omega
  subst hk3
  rw [show 3 - 3 = 0 from rfl, eraseAllF] at e3
  rw [e3, if_pos rfl] at ew
  clear e3 hE
  have hm2 := hcn.2.2
  intro y hz
  have hz37 : y = ((BitVec.ofInt 32 m).toNat : Int) := by rw [hz, wu32, BitVec.toNat_ofInt]; omega
  clear hz
  subst hz37
  conv => whnf
  have g5 := run_words3 w3 v (BitVec.ofInt 32 m) 0#32
  obtain ⟨w5, hr5, ho5, x5⟩ := g5
  refine ⟨_, _, hr5, ?_⟩
  clear hr5
  have hg3 := h3.f.lt
  have gxs : ∃ xs, xs = [v, BitVec.ofInt 32 m, 0#32] ∧ xs.length = 3 := ⟨_, rfl, rfl⟩
  obtain ⟨xs, hxs, hxl⟩ := gxs
  rw [← hxs] at ho5 ew
  clear hxs
  have h5 := h3.ext x5
  conv => whnf
  refine vcLoop_inv lok (σ := Nat)
    (fun k => [(11, .int .i64 k), (10, .slice (some ⟨w3.heap.size, 0, none⟩) 3 3), (0, .pointer (some ⟨rb, 0, none⟩)), (1, .int .i64 slot)])
    (fun k w' => k ≤ 3 ∧ ∃ sk, RsAt B w' rb g gw c n sk ∧ Num sk s.ws.length (i + 3 + k) ∧ FlMod g gw w5 w' ∧ R = progAllF sk (atF n slot + k : Nat) (xs.drop k)) (fun k => 3 - k)
    0 ⟨rfl, rfl, rfl, rfl, trivial⟩ ⟨Nat.zero_le _, sk, h5, op3, Mod.refl _ _, by rw [Nat.add_zero, List.drop_zero]; exact ew⟩ ?_
  rintro k w6 ⟨hk, s6, h6, op6, m6, e6⟩
  have hl6 := op6.len
  conv => whnf
  refine vcCond_split lok rfl (fun h4 => ?_) (fun h4 => ?_)
  rotate_left
  · have h4 := df h4
    conv => whnf
    have hk3 : k = 3 := by omega
    rw [List.drop_of_length_le (by omega), progAllF] at e6
    rw [e6]
    exact ⟨rfl, h6, m3.trans ((Mod.ofExt _ x5).trans m6)⟩
  have h4 := dt h4
  conv => whnf
  have hk3 : k < 3 := by omega
  have edr : xs.drop k = xs.getD k 0#32 :: xs.drop (k + 1) := by
    rw [List.drop_eq_getElem_cons (by omega)]
    simp [List.getD, List.getElem?_eq_getElem (show k < xs.length by omega)]
  rw [edr, progAllF] at e6
  have ho6 := m6.keepOwn ho5 (fun b hb e => by
      have := (ho5.ge b hb).1
      rcases e with e | e <;> omega)
  refine vcDraw_meet lok mixed (Ext w6) [6] [0, 1, 2, 3, 4, 5, 7, 9, 10, 11, 12, 6, 8, 13, 14] (fun β : Bool => [(78, .bool β)])
      (fun β w' => β = !decide ((progF s6 (atF n slot + k : Nat) (xs.getD k 0#32)).2 = 0) ∧ RsAt B w' rb g gw c n (progF s6 (atF n slot + k : Nat) (xs.getD k 0#32)).1 ∧ FlMod g gw w5 w') [78] (fun _ => rfl) rfl (by kernel_rfl) (fun w7 hw7 => ⟨hw7 ▸ Ext.drew w6, ?_⟩) ?_
  · have x7 : Ext w6 w7 := hw7 ▸ Ext.drew w6
    clear hw7
    conv => whnf
    refine ⟨_, fun w' hw' => (h6.b.ext hw').cell (i := 0) rfl, ?_⟩
    conv => whnf
    have g8 := sl_get ho6.sl (k : Int) k rfl (by omega)
    obtain ⟨p8, o8, ha8, hb8, hcell8⟩ := g8
    refine ⟨p8, o8, ha8, ⟨by omega, by omega⟩, ?_⟩
    conv => whnf
    refine ⟨_, fun w' hw' => Below.cell_of hw' (cell_lt hcell8) hcell8, ?_⟩
    conv => whnf
    refine Calls.ret (rsplace_calls (h6.ext x7) slot hb) ?_
    rintro _ w8 ⟨rfl, hw8⟩
    subst hw8
    refine ⟨_, fun _ h => h, x7, ?_⟩
    conv => whnf
    refine ⟨by omega, ?_⟩
    conv => whnf
    rw [show ((atF n slot : Nat) : Int) + (k : Int) = ((atF n slot + k : Nat) : Int) by omega]
    refine Calls.ret (rprog_calls (h6.ext x7).f ((atF n slot + k : Nat) : Int) (xs.getD k 0#32) (by omega) (op6.ok (by omega))) ?_
    rintro _ w9 ⟨rfl, f9, m9⟩
    conv => whnf
    exact ⟨_, ⟨rfl, trivial⟩, rfl, (h6.ext x7).next f9 m9 (progF_le s6 _ _).len, (m6.trans (Mod.ofExt _ x7)).trans m9⟩
  rintro β w7 ⟨hβ, h7, m7⟩
  conv => whnf
  refine vcCond_split lok rfl (fun h8 => ?_) (fun h8 => ?_)
  · rw [hβ] at h8
    have h8 : ¬ (progF s6 ((atF n slot + k : Nat) : Int) (xs.getD k 0#32)).2 = 0 := fun q => by rw [decide_eq_true q] at h8; cases h8
    rw [if_neg h8] at e6
    rw [e6]
    conv => whnf
    exact ⟨rfl, h7, m3.trans ((Mod.ofExt _ x5).trans m7)⟩
  · rw [hβ] at h8
    have h8 : (progF s6 ((atF n slot + k : Nat) : Int) (xs.getD k 0#32)).2 = 0 := by
      by_cases q : (progF s6 ((atF n slot + k : Nat) : Int) (xs.getD k 0#32)).2 = 0
      · exact q
      · rw [decide_eq_false q] at h8; cases h8
    rw [if_pos h8] at e6
    conv => whnf
    refine ⟨by omega, ?_⟩
    conv => whnf
    exact ⟨k + 1, ⟨rfl, rfl, rfl, rfl, trivial⟩, ⟨by omega, _, h7, (op6.prog _ _).up (by omega), m7, by rw [show ((atF n slot + (k + 1) : Nat) : Int) = ((atF n slot + k : Nat) : Int) + 1 by omega]; exact e6⟩, by omega⟩
end
end Go.Proofs.Ytgipackjnncabaa

/- Walks of layer 2, sixth part: the reference of octet.Words. -/
set_option linter.unusedVariables false
namespace Go.Proofs.Ytgipackjnncabaa
open Go.Vc Go.RowKit

theorem wordsF_take (bs : List (BitVec 8)) (i : Nat) (hi : i < (bs.length + 3) / 4) : (wordsF bs).take (i + 1) = (wordsF bs).take i ++ [wordOf (four bs i)] := by
  rw [List.take_succ_eq_append_getElem (by rw [wordsF_len]; exact hi)]
  simp [wordsF]

theorem four_drop (bs : List (BitVec 8)) (i j : Nat) (hj : j < 4) : (four bs i).drop j = bs.getD (4 * i + j) 255#8 :: (four bs i).drop (j + 1) := by
  rw [List.drop_eq_getElem_cons (by rw [four_len]; exact hj)]
  simp [four]

set_option maxHeartbeats 4000000 in
/-- its reference -/
theorem rwords_calls {w : World} {a : Option Addr} {c : Nat} {bs : List (BitVec 8)} (h : Sl u8v w a bs) (hl : bs.length ≤ 1048576) :
    Calls Try.prog 51 #[.slice a bs.length c] w (Ret fun v w' => ∃ a' c', v = .slice a' (wordsF bs).length c' ∧ Own 42 u32v w.heap.size w' a' c' (wordsF bs) ∧ Ext w w') := by
  refine calls_of_vc lok Try.func51 ?_ rfl
  conv => whnf
  refine vcLoop_inv lok (σ := Nat × Int × Option Addr × Nat)
    (fun ⟨i, m, b, d⟩ => [(4, .int .i64 m), (0, .slice a bs.length c), (3, .slice b ((wordsF bs).take i).length d)])
    (fun ⟨i, m, b, d⟩ w2 => i ≤ (bs.length + 3) / 4 ∧ m = ((4 * i : Nat) : Int) ∧ Own 42 u32v w.heap.size w2 b d ((wordsF bs).take i) ∧ Ext w w2) (fun s => (bs.length + 3) / 4 - s.1)
    (0, 0, none, 0) ⟨rfl, rfl, rfl, trivial⟩ ⟨Nat.zero_le _, rfl, Own.nil _ _ _ _, Ext.refl _⟩ ?_
  rintro ⟨i, m, b, d⟩ w2 ⟨hi, hm, ho2, hx2⟩
  conv => whnf
  refine vcCond_split lok rfl (fun h2 => ?_) (fun h2 => ?_)
  rotate_left
  · have h2 := df h2
    obtain rfl : i = (bs.length + 3) / 4 := by omega
    conv => whnf
    have e : (wordsF bs).take ((bs.length + 3) / 4) = wordsF bs := List.take_of_length_le (by rw [wordsF_len]; exact Nat.le_refl _)
    rw [e] at ho2
    exact ⟨b, d, by rw [e], ho2, hx2⟩
  have h2 := dt h2
  have him : i < (bs.length + 3) / 4 := by omega
  conv => whnf
  refine vcLoop_inv lok (σ := Nat × Int × Nat)
    (fun ⟨j, z, n⟩ => [(6, .int .i64 z), (5, .int .u32 n), (4, .int .i64 m), (0, .slice a bs.length c), (3, .slice b ((wordsF bs).take i).length d)])
    (fun ⟨j, z, n⟩ w3 => j ≤ 4 ∧ z = (j : Int) - 1 ∧ n = decN ((four bs i).drop j) ∧ w3 = w2) (fun s => s.1)
    (4, 3, 0) ⟨rfl, rfl, rfl, rfl, rfl, trivial⟩ ⟨Nat.le_refl _, rfl, by rw [List.drop_of_length_le (by rw [four_len]; exact Nat.le_refl _)]; rfl, rfl⟩ ?_
  rintro ⟨j, z, n⟩ w3 ⟨hj, hz, hn, hw3⟩
  subst hw3
  conv => whnf
  refine vcCond_split lok rfl (fun h4 => ?_) (fun h4 => ?_)
  · have h4 := dt h4
    conv => whnf
    refine ⟨by omega, ?_⟩
    conv => whnf
    have ek : ∃ k, j = k + 1 := ⟨j - 1, by omega⟩
    obtain ⟨k, hk⟩ := ek
    subst hk
    have hk4 : k < 4 := by omega
    have efd := four_drop bs i k hk4
    have hdl := decN_lt ((four bs i).drop (k + 1))
    rw [show ((four bs i).drop (k + 1)).length = 3 - k by rw [List.length_drop, four_len]; omega] at hdl
    have hp : 256 ^ (3 - k) ≤ 256 ^ 3 := Nat.pow_le_pow_right (by decide) (by omega)
    have hp3 : (256 : Nat) ^ 3 = 16777216 := by decide
    rw [← hn] at hdl
    refine vcCond_meet (fun y : BitVec 8 => [(7, .int .u8 y.toNat), (6, .int .i64 z), (5, .int .u32 n), (4, .int .i64 m), (0, .slice a bs.length c), (3, .slice b ((wordsF bs).take i).length d)])
      (fun y w4 => w4 = w3 ∧ y = bs.getD (4 * i + k) 255#8) ?_ ?_
    · refine vcCond_split lok rfl (fun h5 => ?_) (fun h5 => ?_)
      · have h5 := dt h5
        conv => whnf
        refine ⟨by omega, ?_⟩
        conv => whnf
        have g1 : 0 ≤ m + z := by omega
        have g2 : m + z < bs.length := by omega
        have g3 := h.ext hx2
        have g4 := g3.at _ g1 g2
        obtain ⟨p, o, ha, hcell⟩ := g4
        refine ⟨p, o, ha, ⟨by omega, by omega⟩, ?_⟩
        conv => whnf
        refine ⟨_, hcell, ?_⟩
        conv => whnf
        have e : (m + z).toNat = 4 * i + k := by omega
        have e2 : bs.getD (4 * i + k) default = bs.getD (4 * i + k) 255#8 := by
          simp [List.getD, List.getElem?_eq_getElem (show 4 * i + k < bs.length by omega)]
        exact ⟨bs.getD (m + z).toNat default, ⟨rfl, rfl, rfl, rfl, rfl, rfl, trivial⟩, rfl, by rw [e, e2]⟩
      · have h5 := df h5
        conv => whnf
        refine ⟨255#8, ⟨rfl, rfl, rfl, rfl, rfl, rfl, trivial⟩, rfl, ?_⟩
        simp [List.getD, List.getElem?_eq_none (show bs.length ≤ 4 * i + k by omega)]
    rintro y w4 ⟨hw4, hy⟩
    subst hw4
    rw [← hy] at efd
    have hyl := y.isLt
    have e8 : decN ((four bs i).drop k) = y.toNat + 256 * n := by rw [efd, hn]; rfl
    conv => whnf
    intro z2 hz2
    have hq : z2 = 256 * (n : Int) := by rw [hz2, wu32]; omega
    subst hq
    conv => whnf
    intro z2 hz2
    have hq : z2 = (y.toNat : Int) := by rw [hz2, wu32]; omega
    subst hq
    conv => whnf
    intro z2 hz2
    have hq : z2 = ((y.toNat + 256 * n : Nat) : Int) := by rw [hz2, wu32]; omega
    subst hq
    conv => whnf
    refine ⟨by omega, ?_⟩
    conv => whnf
    exact ⟨(k, z - 1, y.toNat + 256 * n), ⟨rfl, rfl, rfl, rfl, rfl, trivial⟩, ⟨by omega, by omega, e8.symm, rfl⟩, Nat.lt_succ_self k⟩
  · have h4 := df h4
    have hj0 : j = 0 := by omega
    subst hj0
    have hn2 : n = (wordOf (four bs i)).toNat := by rw [wordOf_nat (four bs i) (by rw [four_len]; exact Nat.le_refl _), hn]; rfl
    subst hn2
    conv => whnf
    have etk := wordsF_take bs i him
    refine ⟨_, _, run_buildN e32.toElem ([wordOf (four bs i)].map u32v) (by simp [u32v, Value.oneCell']) (by simp) w3, ?_⟩
    conv => whnf
    have x3 : Ext w3 (w3.alloc (.cells ([wordOf (four bs i)].map u32v).toArray 42)) := Ext.new _ _
    have hs3 : Sl u32v (w3.alloc (.cells ([wordOf (four bs i)].map u32v).toArray 42)) (some ⟨w3.heap.size, 0, none⟩) [wordOf (four bs i)] := Sl.lit _ _
    have hlt : ((wordsF bs).take i).length ≤ 1048576 := by rw [List.length_take, wordsF_len]; omega
    have g7 := (ho2.ext x3).append (ty := 37) (d := 1) e32.toElem (fun _ => rfl) hs3 (by simp only [List.length_singleton]; omega) (hx2.trans x3).size
    obtain ⟨a4, c4, w4, hr4, ho4, hg4, _⟩ := g7
    refine ⟨_, _, hr4, ?_⟩
    have x4 : Ext w w4 := hg4.extOf (hx2.trans x3) (fun g hg => (ho2.ge g hg).1)
    conv => whnf
    refine ⟨by omega, ?_⟩
    conv => whnf
    exact ⟨(i + 1, m + 4, a4, c4), ⟨rfl, rfl, by rw [etk]; rfl, trivial⟩, ⟨by omega, by omega, by rw [etk]; exact ho4, x4⟩, Nat.sub_succ_lt_self _ _ him⟩

end Go.Proofs.Ytgipackjnncabaa

/- Walks of layer 22: the document's slots: written. -/
set_option linter.unusedVariables false
namespace Go.Proofs.Ytgipackjnncabaa
open Go.Vc Go.RowKit

section
variable {B : Nat} {w w' : World} {rb g gw c n i : Nat} {s t : FS}
set_option maxHeartbeats 4000000 in
/-- Write -/
theorem rswrite_calls (h : RsAt B w rb g gw c n s) (slot chunk : Int) (hch : -9223372036854775808 ≤ chunk ∧ chunk ≤ 9223372036854775807) {ba : Option Addr} {bc : Nat} {b : List (BitVec 8)} (hb : Sl u8v w ba b) (hbl : b.length ≤ 9223372036854775807) (hop : Num s s.ws.length i) (hi : i ≤ 1152921504606846976) :
    Calls Try.prog 135 #[.pointer (some ⟨rb, 0, none⟩), .int .i64 slot, .int .i64 chunk, .slice ba b.length bc] w
      (Ret fun r w' => r = .int .i64 (writeSF s n slot chunk b).2 ∧ RsAt B w' rb g gw c n (writeSF s n slot chunk b).1 ∧ FlMod g gw w w') := by
  have hr := h.room
  have hsm := h.small
  have hlt := h.f.lt
  refine calls_of_vc lok Try.func135 ?_ rfl
  conv => whnf
  refine ⟨_, h.b.cell (i := 0) rfl, ?_⟩
  conv => whnf
  refine ⟨_, h.f.blk.cell (i := 1) rfl, ?_⟩
  conv => whnf
  refine vcCond_split lok rfl (fun k1 => ?_) (fun k1 => ?_)
  · have e : writeSF s n slot chunk b = (s, 7) := by unfold writeSF; rw [check_off k1, if_pos (by decide)]
    rw [e]
    conv => whnf
    exact ⟨rfl, h, Mod.refl _ _⟩
  conv => whnf
  refine Calls.ret (rsbad_calls slot) ?_
  rintro _ w1 ⟨rfl, hw1⟩
  conv => whnf
  subst hw1
  refine vcCond_split lok rfl (fun k2 => ?_) (fun k2 => ?_)
  · have k2 := dt k2
    have e : writeSF s n slot chunk b = (s, 1) := by unfold writeSF; rw [check_bad k1 k2, if_pos (by decide)]
    rw [e]
    conv => whnf
    exact ⟨rfl, h, Mod.refl _ _⟩
  have k2 := df k2
  have h1 := check_ok k1 k2
  have hz := check_zero h1
  have hp := atF_le hz.2 hr
  have hh := headR_ok (n := n) h1
  have ew : writeSF s n slot chunk b = match headW s.ws (atF n slot) with
      | none => (s, 8)
      | some (_, m) =>
        if ¬ (0 ≤ chunk ∧ chunk < 32 ∧ 64 * chunk < m ∧ b.length = lenC m chunk.toNat) then (s, 1)
        else if sealedF s n slot = true then (s, 25)
        else if s.ws.getD (atF n slot + 3 + chunk.toNat) 0#32 = 0#32 then (s, 0)
        else if (progAllF s ((atF n slot + 256 + 16 * chunk.toNat : Nat) : Int) (wordsF b)).2 = 0 then
          if sliceF (progAllF s ((atF n slot + 256 + 16 * chunk.toNat : Nat) : Int) (wordsF b)).1.ws (atF n slot + 256 + 16 * chunk.toNat) (wordsF b).length = wordsF b then
            progF (progAllF s ((atF n slot + 256 + 16 * chunk.toNat : Nat) : Int) (wordsF b)).1 ((atF n slot + 3 + chunk.toNat : Nat) : Int) 0#32
          else ((progAllF s ((atF n slot + 256 + 16 * chunk.toNat : Nat) : Int) (wordsF b)).1, 4)
        else ((progAllF s ((atF n slot + 256 + 16 * chunk.toNat : Nat) : Int) (wordsF b)).1, 7) := by
    unfold writeSF; rw [if_neg (fun q => q h1)]; rfl
  conv => whnf
  refine Calls.ret (rshead_calls h slot) ?_
  rintro _ w2 ⟨rfl, x2⟩
  conv => whnf
  cases hW : headW s.ws (atF n slot) with
  | none =>
    rw [hW] at ew hh
    have e1 := congrArg Prod.fst hh
    have e2 := congrArg (fun x => x.2.1) hh
    have e3 := congrArg (fun x => x.2.2) hh
    dsimp only at ew e1 e2 e3
    rw [e1, e2, e3]
    rw [ew]
    refine vcCond_true lok (rfl) ?_
    conv => whnf
    exact ⟨rfl, h.ext x2, Mod.ofExt _ x2⟩
  | some vm =>
  obtain ⟨v, m⟩ := vm
  have hcan := (headW_size hW).1
  have hm0 : 1 ≤ m ∧ m ≤ 2048 := by have := hcan.2.2; simp only at this; omega
  rw [hW] at ew hh
  have e1 := congrArg Prod.fst hh
  have e2 := congrArg (fun x => x.2.1) hh
  have e3 := congrArg (fun x => x.2.2) hh
  dsimp only at ew e1 e2 e3
  rw [e1, e2, e3]
  clear hh hcan hW e1 e2 e3
  refine vcCond_false lok (rfl) ?_
  conv => whnf
  have gL : ∃ L : Int, L = if (0 : Int) ≤ chunk ∧ chunk < 32 ∧ 64 * chunk < m then (lenC m chunk.toNat : Int) else 0 := ⟨_, rfl⟩
  obtain ⟨L, hL⟩ := gL
  have hlen1 : 64 * chunk < m → 0 ≤ chunk → 1 ≤ lenC m chunk.toNat := fun q q2 => by unfold lenC; omega
  have gL2 := fun (w : World) => rlong_calls (w := w) m hm0.2 chunk hch
  rw [← hL] at gL2
  refine vcReg_meet lok (fun β : Bool => [(45, .bool β)]) (fun β w' => w' = w2 ∧ β = !decide (0 ≤ chunk ∧ chunk < 32 ∧ 64 * chunk < m ∧ b.length = lenC m chunk.toNat)) [45] (fun _ => rfl) rfl ?_ ?_
  · conv => whnf
    refine Calls.ret (gL2 _) ?_
    rintro _ w3 ⟨rfl, hw3⟩
    conv => whnf
    subst hw3
    refine bcase (fun k1 => ?_) (fun k1 => ?_)
    · have k1 := dt k1
      conv => whnf
      refine ⟨_, ⟨rfl, trivial⟩, rfl, ?_⟩
      rw [decide_eq_false (fun q => by
        rw [if_pos ⟨q.1, q.2.1, q.2.2.1⟩] at hL
        have := hlen1 q.2.2.1 q.1
        omega)]
      rfl
    have k1 := df k1
    have hin : 0 ≤ chunk ∧ chunk < 32 ∧ 64 * chunk < m := by
      by_cases q : 0 ≤ chunk ∧ chunk < 32 ∧ 64 * chunk < m
      · exact q
      · rw [if_neg q] at hL; exact absurd hL k1
    rw [if_pos hin] at hL
    conv => whnf
    refine Calls.ret (gL2 _) ?_
    rintro _ w3 ⟨rfl, hw3⟩
    conv => whnf
    subst hw3
    refine ⟨_, ⟨rfl, trivial⟩, rfl, ?_⟩
    show (!decide (((b.length : Nat) : Int) = L)) = _
    congr 1
    rw [decide_eq_decide, hL]
    exact ⟨fun e => ⟨hin.1, hin.2.1, hin.2.2, by omega⟩, fun q => by have := q.2.2.2; omega⟩
  rintro β w3 ⟨hw3, hβ⟩
  subst hw3
  clear gL2 hL hlen1
  conv => whnf
  refine vcCond_split lok rfl (fun h2 => ?_) (fun h2 => ?_)
  · rw [hβ] at h2
    have h2 : ¬ (0 ≤ chunk ∧ chunk < 32 ∧ 64 * chunk < m ∧ b.length = lenC m chunk.toNat) := fun q => by rw [decide_eq_true q] at h2; cases h2
    rw [if_pos h2] at ew
    rw [ew]
    conv => whnf
    exact ⟨rfl, h.ext x2, Mod.ofExt _ x2⟩
  rw [hβ] at h2
  have h2 : 0 ≤ chunk ∧ chunk < 32 ∧ 64 * chunk < m ∧ b.length = lenC m chunk.toNat := by
    by_cases q : 0 ≤ chunk ∧ chunk < 32 ∧ 64 * chunk < m ∧ b.length = lenC m chunk.toNat
    · exact q
    · rw [decide_eq_false q] at h2; cases h2
  clear hβ
  rw [if_neg (fun q => q h2)] at ew
  obtain ⟨k, rfl⟩ := Int.eq_ofNat_of_zero_le h2.1
  rw [Int.toNat_natCast] at ew h2
  obtain ⟨_, hk32, hkm, hblen⟩ := h2
  have hk32 : k < 32 := by omega
  have hlc := lenC_le m k
  have hwl : (wordsF b).length ≤ 16 := by rw [wordsF_len]; omega
  conv => whnf
  refine Calls.ret (rssealed_calls (h.ext x2) slot) ?_
  rintro _ w4 ⟨rfl, x4⟩
  conv => whnf
  have x14 := x2.trans x4
  refine vcCond_split lok rfl (fun h3 => ?_) (fun h3 => ?_)
  · rw [if_pos h3] at ew
    rw [ew]
    conv => whnf
    exact ⟨rfl, h.ext x14, Mod.ofExt _ x14⟩
  rw [h3, if_neg Bool.false_ne_true] at ew
  have h4 := h.ext x14
  have gat : ∃ p, p = atF n slot := ⟨_, rfl⟩
  obtain ⟨p, hpp⟩ := gat
  rw [← hpp] at ew hp
  conv => whnf
  refine Calls.ret (rsplace_calls h4 slot hz.2) ?_
  rintro _ w5 ⟨rfl, hw5⟩
  conv => whnf
  subst hw5
  rw [← hpp]
  refine ⟨by omega, ?_⟩
  conv => whnf
  refine ⟨by omega, ?_⟩
  conv => whnf
  rw [show (p : Int) + 3 + (k : Int) = ((p + 3 + k : Nat) : Int) by omega]
  refine ⟨_, h4.b.cell (i := 0) rfl, ?_⟩
  conv => whnf
  refine ⟨_, h4.f.blk.cell (i := 0) rfl, ?_⟩
  conv => whnf
  have g32 := sl_get (h4.f.own.sl) (((p + 3 + k : Nat) : Int)) (p + 3 + k) (by omega) (by omega)
  obtain ⟨p32, o32, ha32, hb32, hcell32⟩ := g32
  refine ⟨p32, o32, ha32, hb32, ?_⟩
  conv => whnf
  refine ⟨_, hcell32, ?_⟩
  conv => whnf
  refine vcCond_split lok rfl (fun h5 => ?_) (fun h5 => ?_)
  · have h5 := num_zero.1 (dt h5)
    rw [if_pos h5] at ew
    rw [ew]
    conv => whnf
    exact ⟨rfl, h4, Mod.ofExt _ x14⟩
  have h5 := fun e => df h5 (num_zero.2 e)
  rw [if_neg h5] at ew
  conv => whnf
  refine Calls.ret (rwords_calls (hb.ext x14) (by omega)) ?_
  rintro _ w6 ⟨a6, c6, rfl, ho6, x6⟩
  conv => whnf
  have x16 := x14.trans x6
  have z14 := x14.size
  have h6 := h.ext x16
  refine Calls.ret (rsplace_calls h6 slot hz.2) ?_
  rintro _ w7 ⟨rfl, hw7⟩
  conv => whnf
  subst hw7
  rw [← hpp]
  refine ⟨by omega, ?_⟩
  conv => whnf
  refine ⟨by omega, ?_⟩
  conv => whnf
  refine ⟨by omega, ?_⟩
  conv => whnf
  have ga : ∃ a, a = p + 256 + 16 * k := ⟨_, rfl⟩
  obtain ⟨a, ha⟩ := ga
  rw [← ha] at ew
  rw [show (p : Int) + 256 + 16 * (k : Int) = (a : Int) by omega]
  have gxs : ∃ xs, xs = wordsF b := ⟨_, rfl⟩
  obtain ⟨xs, hxs⟩ := gxs
  rw [← hxs] at ew ho6 hwl ⊢
  have hpa := progAll_cases xs s a hz.1 (by omega)
  have nums := Num.all xs s i ((a : Nat) : Int) hop
  have gA : ∃ A, A = progAllF s ((a : Nat) : Int) xs := ⟨_, rfl⟩
  obtain ⟨A, hA⟩ := gA
  rw [← hA] at hpa nums ew
  conv => whnf
  refine vcLoop_inv lok (σ := Nat)
    (fun k' => [(15, .int .i64 k'), (14, .int .i64 a), (13, .slice a6 xs.length c6), (12, .int .i64 (p + 3 + k : Nat)), (0, .pointer (some ⟨rb, 0, none⟩)), (1, .int .i64 slot)])
    (fun k' w' => k' ≤ xs.length ∧ ∃ sk, RsAt B w' rb g gw c n sk ∧ Num sk s.ws.length (i + k') ∧ FlMod g gw w7 w' ∧ A = progAllF sk (a + k' : Nat) (xs.drop k')) (fun k' => xs.length - k')
    0 ⟨rfl, rfl, rfl, rfl, rfl, rfl, trivial⟩ ⟨Nat.zero_le _, s, h6, hop, Mod.refl _ _, by rw [Nat.add_zero, List.drop_zero]; exact hA⟩ ?_
  rintro j w8 ⟨hj, s8, h8, op8, m8, e8⟩
  have hl8 := op8.len
  have ho8 := m8.keepOwn ho6 (fun q hq e => by
      have := (ho6.ge q hq).1
      rcases e with e | e <;> omega)
  conv => whnf
  refine vcCond_split lok rfl (fun h9 => ?_) (fun h9 => ?_)
  · have h9 := dt h9
    conv => whnf
    have hjl : j < xs.length := by omega
    have edr : xs.drop j = xs.getD j 0#32 :: xs.drop (j + 1) := by
      rw [List.drop_eq_getElem_cons hjl]
      simp [List.getD, List.getElem?_eq_getElem hjl]
    rw [edr, progAllF] at e8
    refine vcDraw_meet lok mixed (fun w' => w' = w8.drew) [] [0, 1, 2, 3, 4, 5, 6, 7, 8, 9, 10, 11, 12] (fun β : Bool => [(93, .bool β)])
      (fun β w' => β = !decide ((progF s8 (a + j : Nat) (xs.getD j 0#32)).2 = 0) ∧ RsAt B w' rb g gw c n (progF s8 (a + j : Nat) (xs.getD j 0#32)).1 ∧ FlMod g gw w7 w') [93] (fun _ => rfl) rfl (by kernel_rfl) (fun w9 hw9 => ⟨hw9, ?_⟩) ?_
    · have x9 : Ext w8 w9 := hw9 ▸ Ext.drew w8
      have h9 := h8.ext x9
      have ho9 := ho8.ext x9
      conv => whnf
      refine ⟨_, fun w' hw' => by rw [hw', ← hw9]; exact h9.b.cell (i := 0) rfl, ?_⟩
      conv => whnf
      refine ⟨by omega, ?_⟩
      conv => whnf
      have g48 := sl_get (ho9.sl) ((j : Int)) (j) (by omega) (by omega)
      obtain ⟨p48, o48, ha48, hb48, hcell48⟩ := g48
      refine ⟨p48, o48, ha48, hb48, ?_⟩
      conv => whnf
      refine ⟨_, fun w' hw' => by rw [hw', ← hw9]; exact hcell48, ?_⟩
      conv => whnf
      rw [show (a : Int) + (j : Int) = ((a + j : Nat) : Int) by omega]
      refine Calls.ret (rprog_calls h9.f ((a + j : Nat) : Int) (xs.getD j 0#32) (by omega) (op8.ok (by omega))) ?_
      rintro _ w10 ⟨rfl, f10, m10⟩
      conv => whnf
      exact ⟨_, ⟨rfl, trivial⟩, rfl, h9.next f10 m10 (progF_le s8 _ _).len, (m8.trans (Mod.ofExt _ x9)).trans m10⟩
    rintro β w9 ⟨hβ, h9, m9⟩
    conv => whnf
    refine vcCond_split lok rfl (fun k3 => ?_) (fun k3 => ?_)
    · rw [hβ] at k3
      have k3 : ¬ (progF s8 ((a + j : Nat) : Int) (xs.getD j 0#32)).2 = 0 := fun q => by rw [decide_eq_true q] at k3; cases k3
      rw [if_neg k3] at e8
      have hA2 : ¬ A.2 = 0 := by
        rw [e8]
        have hcode := progF_code (s := s8) (i := ((a + j : Nat) : Int)) (x := xs.getD j 0#32) (by omega) (by omega)
        show ¬ ((7 : Int) = 0)
        decide
      rw [if_neg hA2, e8] at ew
      rw [ew]
      conv => whnf
      exact ⟨rfl, h9, (Mod.ofExt _ x16).trans m9⟩
    · rw [hβ] at k3
      have k3 : (progF s8 ((a + j : Nat) : Int) (xs.getD j 0#32)).2 = 0 := by
        by_cases q : (progF s8 ((a + j : Nat) : Int) (xs.getD j 0#32)).2 = 0
        · exact q
        · rw [decide_eq_false q] at k3; cases k3
      rw [if_pos k3] at e8
      conv => whnf
      refine ⟨by omega, ?_⟩
      conv => whnf
      exact ⟨j + 1, ⟨rfl, rfl, rfl, rfl, rfl, rfl, trivial⟩, ⟨by omega, _, h9, (op8.prog _ _).up (by omega), m9, by rw [show ((a + (j + 1) : Nat) : Int) = ((a + j : Nat) : Int) + 1 by omega]; exact e8⟩, by omega⟩
  have h9 := df h9
  conv => whnf
  have hjx : j = xs.length := by omega
  rw [List.drop_of_length_le (by omega), progAllF] at e8
  rw [e8, if_pos rfl] at ew
  dsimp only at ew
  clear hpa
  have hle := h8.f.own.le
  have m18 := (Mod.ofExt (fun k => k = g ∨ k = gw) x16).trans m8
  refine ⟨_, h8.b.cell (i := 0) rfl, ?_⟩
  conv => whnf
  refine ⟨_, h8.f.blk.cell (i := 0) rfl, ?_⟩
  conv => whnf
  refine ⟨by omega, ?_⟩
  conv => whnf
  have hmid := Sl.mid h8.f.own.sl a (a + xs.length) c (by omega) (by omega) hle.1
  rw [show a + xs.length - a = xs.length by omega] at hmid
  refine ⟨⟨by omega, by omega, by omega⟩, ?_⟩
  intro b2 hb2
  have hb2 : b2 = if c = a then (some ⟨gw, 0, none⟩ : Option Addr) else (some ⟨gw, 0, none⟩ : Option Addr).map (·.add (a * 1)) := hb2
  rw [← hb2] at hmid
  clear hb2
  have gsl : ∃ ys, ys = sliceF s8.ws a xs.length ∧ ys.length = xs.length := ⟨_, rfl, by unfold sliceF; rw [List.length_take, List.length_drop]; omega⟩
  obtain ⟨ys, hys, hyl⟩ := gsl
  have hmid : Sl u32v w8 b2 ys := by rw [hys]; exact hmid
  rw [← hys] at ew
  rw [show ((a : Int) + (xs.length : Int)).toNat - (a : Int).toNat = ys.length by omega]
  conv => whnf
  refine Calls.ret (same_calls hmid ho8.sl (by omega)) ?_
  rintro _ w10 ⟨rfl, x10⟩
  conv => whnf
  have h10 := h8.ext x10
  refine vcCond_split lok rfl (fun h11 => ?_) (fun h11 => ?_)
  · have h11 : ¬ ys = xs := fun q => by rw [decide_eq_true q] at h11; cases h11
    rw [if_neg h11] at ew
    rw [ew]
    conv => whnf
    exact ⟨rfl, h10, m18.trans (Mod.ofExt _ x10)⟩
  have h11 : ys = xs := by
    by_cases q : ys = xs
    · exact q
    · rw [decide_eq_false q] at h11; cases h11
  rw [if_pos h11] at ew
  rw [ew]
  conv => whnf
  refine ⟨_, h10.b.cell (i := 0) rfl, ?_⟩
  conv => whnf
  refine Calls.ret (rprog_calls h10.f ((p + 3 + k : Nat) : Int) 0#32 (by omega) (op8.ok (by omega))) ?_
  rintro _ w12 ⟨rfl, f12, m12⟩
  conv => whnf
  exact ⟨rfl, h10.next f12 m12 (progF_le s8 _ _).len, (m18.trans (Mod.ofExt _ x10)).trans m12⟩
end
end Go.Proofs.Ytgipackjnncabaa

/- Walks of layer 22: the document's slots: bytes, opened. -/
set_option linter.unusedVariables false
namespace Go.Proofs.Ytgipackjnncabaa
open Go.Vc Go.RowKit

theorem bytesF_append (a b : List (BitVec 32)) : bytesF (a ++ b) = bytesF a ++ bytesF b := by unfold bytesF; exact List.flatMap_append
theorem sliceF_len (ws : List (BitVec 32)) (p k : Nat) (h : p + k ≤ ws.length) : (sliceF ws p k).length = k := by unfold sliceF; rw [List.length_take, List.length_drop]; omega
theorem slice_split (ws : List (BitVec 32)) (p k j : Nat) : sliceF ws p (k + j) = sliceF ws p k ++ sliceF ws (p + k) j := by
  unfold sliceF
  rw [List.take_add, List.drop_drop]
theorem bytes_more (ws : List (BitVec 32)) (p k j m : Nat) (hm : m ≤ 4 * k) (hl : p + k ≤ ws.length) : (bytesF (sliceF ws p (k + j))).take m = (bytesF (sliceF ws p k)).take m := by
  rw [slice_split, bytesF_append, List.take_append_of_le_length (by rw [bytesF_len, sliceF_len _ _ _ hl]; exact hm)]
section
variable {B : Nat} {w w' : World} {rb g gw c n i : Nat} {s t : FS}
theorem whole_check {slot : Int} (q : (wholeSF s n slot).2 = 0) : checkF s slot = 0 := by
  by_cases q2 : checkF s slot = 0
  · exact q2
  · unfold wholeSF at q
    rw [if_pos q2] at q
    exact absurd q q2
theorem whole_headR {slot : Int} (q : (wholeSF s n slot).2 = 0) : (headR s n slot).2.1 = (wholeSF s n slot).1 := by
  have hc := whole_check q
  rw [whole_head hc] at q ⊢
  split at q
  · rename_i h1
    rw [if_pos h1]
    split at q
    · rename_i h2
      rw [if_pos h2]
    · cases q
  · cases q

set_option maxHeartbeats 2000000 in
/-- Bytes -/
theorem rsbytes_calls (h : RsAt B w rb g gw c n s) (slot : Int) : Calls Try.prog 138 #[.pointer (some ⟨rb, 0, none⟩), .int .i64 slot] w
    (Ret fun r w' => ∃ a c, r = .tuple #[.slice a (bytesSF s n slot).1.length c, .int .i64 (bytesSF s n slot).2] ∧ Sl u8v w' a (bytesSF s n slot).1 ∧ Ext w w') := by
  unfold bytesSF
  have hm := headR_size s n slot
  have hsm := h.small
  have hlt := h.f.lt
  refine calls_of_vc lok Try.func138 ?_ rfl
  conv => whnf
  refine Calls.ret (rswhole_calls h slot) ?_
  rintro _ w1 ⟨rfl, x1⟩
  conv => whnf
  refine vcCond_split lok rfl (fun h1 => ?_) (fun h1 => ?_)
  · have h1 := ne_true h1
    rw [if_neg h1]
    conv => whnf
    exact ⟨none, 0, rfl, .inl rfl, x1⟩
  have h1 := ne_false h1
  rw [if_pos h1]
  have hz := check_zero (whole_check h1)
  have eH := whole_headR h1
  rw [eH] at hm
  have hpl := atF_le hz.2 h.room
  have gE : ∃ m, m = (wholeSF s n slot).1 := ⟨_, rfl⟩
  obtain ⟨m, hE⟩ := gE
  rw [← hE] at hm eH ⊢
  clear hE h1
  conv => whnf
  refine Calls.ret (rshead_calls (h.ext x1) slot) ?_
  rintro _ w2 ⟨rfl, x2⟩
  conv => whnf
  rw [eH]
  have x12 := x1.trans x2
  have h2 := h.ext x12
  refine Calls.ret (rsplace_calls h2 slot hz.2) ?_
  rintro _ w3 ⟨rfl, hw3⟩
  conv => whnf
  subst hw3
  have gp : ∃ p, p = atF n slot + 256 ∧ p + 512 ≤ s.ws.length := ⟨_, rfl, by omega⟩
  obtain ⟨p, hp, hp5⟩ := gp
  rw [← hp]
  refine ⟨by omega, ?_⟩
  conv => whnf
  rw [show ((atF n slot : Nat) : Int) + 256 = (p : Int) by omega]
  refine ⟨_, h2.b.cell (i := 0) rfl, ?_⟩
  conv => whnf
  refine ⟨_, h2.f.blk.cell (i := 0) rfl, ?_⟩
  conv => whnf
  refine ⟨by omega, ?_⟩
  conv => whnf
  have hle := h2.f.own.le
  have hmid := Sl.mid h2.f.own.sl p (p + 512) c (by omega) (by omega) hle.1
  rw [show p + 512 - p = 512 by omega] at hmid
  refine ⟨⟨by omega, by omega, by omega⟩, ?_⟩
  intro b2 hb2
  have hb2 : b2 = if c = p then (some ⟨gw, 0, none⟩ : Option Addr) else (some ⟨gw, 0, none⟩ : Option Addr).map (·.add (p * 1)) := hb2
  rw [← hb2] at hmid
  clear hb2
  have hyl : (sliceF s.ws p 512).length = 512 := sliceF_len _ _ _ hp5
  have e5 := bytes_more s.ws p ((m + 3) / 4) (512 - (m + 3) / 4) m (by omega) (by omega)
  rw [show (m + 3) / 4 + (512 - (m + 3) / 4) = 512 by omega] at e5
  rw [← e5]
  clear e5
  have hmid : Sl u32v w3 b2 (sliceF s.ws p 512) := hmid
  have gsl : ∃ ys, ys = sliceF s.ws p 512 := ⟨_, rfl⟩
  obtain ⟨ys, hys⟩ := gsl
  rw [← hys] at hmid hyl ⊢
  rw [show (((p : Nat) : Int) + 512).toNat - ((p : Nat) : Int).toNat = ys.length by omega]
  conv => whnf
  refine Calls.ret (rbytes_calls hmid (by omega)) ?_
  rintro _ w4 ⟨a4, c4, rfl, ho4, x4⟩
  conv => whnf
  have hbl := bytesF_len ys
  have hc4 := ho4.le
  refine ⟨⟨by omega, by omega⟩, ?_⟩
  conv => whnf
  refine ⟨a4, c4, ?_, ho4.sl.take m, x12.trans x4⟩
  rw [Int.toNat_natCast]
  show Value.tuple #[.slice a4 m c4, .int .i64 0] = Value.tuple #[.slice a4 ((bytesF ys).take m).length c4, .int .i64 0]
  rw [List.length_take, Nat.min_eq_left (by omega)]

/-- Open -/
theorem rsopen_calls (f : FlAt 81 B w g gw c s) (hl : s.ws.length ≤ 65536) (n : Int) :
    Calls Try.prog 73 #[.pointer (some ⟨g, 0, none⟩), .int .i64 n] w (Ret fun r w' => (¬ (0 ≤ n ∧ 256 * (n + 6) ≤ s.ws.length) ∧ (∃ rb, r = .tuple #[.pointer (some ⟨rb, 0, none⟩), .int .i64 10]) ∧ Ext w w') ∨
      (∃ m : Nat, n = m ∧ 256 * (m + 6) ≤ s.ws.length ∧ ∃ rb, r = .tuple #[.pointer (some ⟨rb, 0, none⟩), .int .i64 0] ∧ w.heap.size ≤ rb ∧ rb < w'.heap.size ∧ RsAt B w' rb g gw c m s ∧ Ext w w')) := by
  refine calls_of_vc lok Try.func73 ?_ rfl
  conv => whnf
  refine vcReg_meet lok (fun β : Bool => [(18, .bool β)]) (fun β w' => w' = w ∧ β = !decide (0 ≤ n ∧ 256 * (n + 6) ≤ s.ws.length)) [18] (fun _ => rfl) rfl ?_ ?_
  · conv => whnf
    refine bcase (fun k1 => ?_) (fun k1 => ?_)
    · have k1 := dt k1
      conv => whnf
      exact ⟨_, ⟨rfl, trivial⟩, rfl, by rw [decide_eq_false (by omega)]; rfl⟩
    have k1 := df k1
    conv => whnf
    refine ⟨_, f.blk.cell (i := 0) rfl, ?_⟩
    conv => whnf
    refine ⟨by decide, ?_⟩
    intro z hz
    have hz20 : z = ((s.ws.length / 256 : Nat) : Int) := by rw [hz]; exact quo256 _ (by omega)
    clear hz
    subst hz20
    conv => whnf
    refine ⟨by omega, ?_⟩
    conv => whnf
    refine ⟨_, ⟨rfl, trivial⟩, rfl, ?_⟩
    by_cases k2 : 256 * (n + 6) ≤ s.ws.length
    · rw [decide_eq_false (by omega), decide_eq_true ⟨by omega, k2⟩]; rfl
    · rw [decide_eq_true (by omega), decide_eq_false (fun q => k2 q.2)]; rfl
  rintro β w2 ⟨hw2, hβ⟩
  subst hw2
  conv => whnf
  refine vcCond_split lok rfl (fun h2 => ?_) (fun h2 => ?_)
  · subst h2
    conv => whnf
    refine ⟨_, fun w => run_build w 184 _ _ (show Try.prog.built 184 [(0, .pointer (some ⟨g, 0, none⟩))] = some #[.pointer (some ⟨g, 0, none⟩), .int .i64 0] by kernel_rfl), ?_⟩
    conv => whnf
    intro w3 hw3
    have x3 : Ext w2 w3 := by rw [hw3]; exact Ext.new _ _
    exact .inl ⟨(fun q => by rw [decide_eq_true q] at hβ; cases hβ), ⟨_, rfl⟩, x3⟩
  subst h2
  have hn : 0 ≤ n ∧ 256 * (n + 6) ≤ s.ws.length := by
    by_cases q : 0 ≤ n ∧ 256 * (n + 6) ≤ s.ws.length
    · exact q
    · rw [decide_eq_false q] at hβ; cases hβ
  clear hβ
  obtain ⟨m, rfl⟩ := Int.eq_ofNat_of_zero_le hn.1
  have hlt := f.lt
  conv => whnf
  refine ⟨_, fun w => run_build w 184 _ _ (show Try.prog.built 184 [(0, .pointer (some ⟨g, 0, none⟩)), (1, .int .i64 m)] = some #[.pointer (some ⟨g, 0, none⟩), .int .i64 m] by kernel_rfl), ?_⟩
  conv => whnf
  intro w3 hw3
  have hb3 : Blk w3 w2.heap.size 184 (sC g m) := by rw [hw3]; exact Blk.new w2 184 _
  have x3 : Ext w2 w3 := by rw [hw3]; exact Ext.new _ _
  clear hw3
  exact .inr ⟨m, rfl, by omega, _, rfl, Nat.le_refl _, hb3.lt, ⟨f.ext x3, hb3, by omega, by omega, by omega, hl⟩, x3⟩
end
end Go.Proofs.Ytgipackjnncabaa
