/- The law SlotsCrashes, walked. -/
import Derived.Test.YtgipackjnncabaaL22c
set_option linter.unusedVariables false
namespace Go.Proofs.Ytgipackjnncabaa
open Go.Vc Go.RowKit

/-- a pair of words -/
def pairC (x : BitVec 32 × BitVec 32) : List Value := [u32v x.1, u32v x.2]
theorem fit_pair {w : World} {es : List Value} (h : Fit w (.arr 2 1 (.int .u32)) es) : ∃ x : BitVec 32 × BitVec 32, es = pairC x ∧ True := by
  obtain ⟨h1, h2⟩ := h
  match es, h1 with
  | [v1, v2], _ =>
    obtain ⟨n1, e1, k1⟩ := h2 0 (by decide)
    obtain ⟨n2, e2, k2⟩ := h2 1 (by decide)
    have e1 : [v1] = [Value.int .u32 n1] := e1
    have e2 : [v2] = [Value.int .u32 n2] := e2
    obtain ⟨x, hx⟩ := wf_u32 k1
    obtain ⟨m, hm⟩ := wf_u32 k2
    injection e1 with e1
    injection e2 with e2
    exact ⟨(x, m), by rw [e1, e2, hx, hm]; rfl, trivial⟩
theorem cut_pos (s : FS) (a : Int) (ha : 0 ≤ a) (m : BitVec 32) : cutF s a m = ({ s with left := a, mask := m }, 0) := by unfold cutF; rw [if_neg (by omega)]
theorem have_sub {ws vs : List (BitVec 32)} {p m : Nat} (h : ∀ j, j < 32 → ws.getD (p + 3 + j) 0#32 = 0#32 → vs.getD (p + 3 + j) 0#32 = 0#32) : haveB vs p m 32 &&& haveB ws p m 32 = haveB ws p m 32 := by
  apply BitVec.eq_of_getLsbD_eq
  intro i hi
  rw [BitVec.getLsbD_and, haveB_bit vs p m 32 i (Nat.le_refl _) hi, haveB_bit ws p m 32 i (Nat.le_refl _) hi]
  cases e : bitB ws p m i with
  | false => simp
  | true =>
    have q := of_decide_eq_true e
    have : bitB vs p m i = true := decide_eq_true ⟨q.1, h i hi q.2⟩
    rw [this]
    simp

set_option maxRecDepth 100000 in
set_option maxHeartbeats 8000000 in
theorem slotsCrashes_walk {w : World} {ba oa : Option Addr} {bc oc : Nat} {bs : List (BitVec 8)} {cuts : List (BitVec 32 × BitVec 32)} (hbs : Sl u8v w ba bs) (hbl : bs.length ≤ 9223372036854775807) (hcu : SlN 2 pairC w oa cuts) (hcl : cuts.length ≤ 9223372036854775807) (sz : Nat) (hsz : sz ≤ 65535) :
    Calls Try.prog 35 #[.slice ba bs.length bc, .int .u16 sz, .slice oa cuts.length oc] w (Law w) := by
  refine calls_of_vc lok Try.func35 ?_ rfl
  conv => whnf
  intro z hz
  have hz2 : z = (sz : Int) := by rw [hz]; exact wi64 (by omega)
  clear hz
  subst hz2
  conv => whnf
  refine ⟨by decide, ?_⟩
  intro z hz
  have hz3 : z = ((sz % 600 : Nat) : Int) := by rw [hz]; exact rem_nat sz 600
  clear hz
  subst hz3
  conv => whnf
  refine ⟨by omega, ?_⟩
  conv => whnf
  have gn : ∃ n : Nat, n = 1 + sz % 600 ∧ 1 ≤ n ∧ n ≤ 600 := ⟨_, rfl, by omega, by omega⟩
  obtain ⟨n, hn, hn1, hn2⟩ := gn
  rw [show (1 : Int) + ((sz % 600 : Nat) : Int) = (n : Int) by omega]
  conv => whnf
  refine Calls.ret (image_calls hbs hbl n (by omega)) ?_
  rintro _ w1 ⟨aa, ac, all, rfl, hal, hoa, x1⟩
  conv => whnf
  refine Calls.ret (new_calls 6) ?_
  rintro _ w2 hp
  conv => whnf
  rcases hp with ⟨hno, _, _⟩ | ⟨_, g, gw, fc, rfl, f2, x2⟩
  · exact absurd hno (by decide)
  replace f2 : FlAt 181 w1.heap.size w2 g gw fc k22S := f2
  have l0 : k22S.ws.length = 1536 := List.length_replicate
  have n0 : Num k22S 1536 0 := ⟨l0, ⟨Int.le_refl _, Int.le_refl _⟩, by show (-1 : Int) ≤ _; decide⟩
  have so : k22S.off = false := rfl
  have sl : k22S.left < 0 := by show (-1 : Int) < 0; decide
  generalize k22S = s0 at *
  have z1 := x1.size
  have f2lo := f2.lo
  have f2lt := f2.lt
  conv => whnf
  refine Calls.ret (sopen_calls f2 (by omega) 0) ?_
  rintro _ w3 hp
  conv => whnf
  rcases hp with ⟨hno, _, _⟩ | ⟨m, hm, _, sb, rfl, hsb, S3, x3⟩
  · exact absurd ⟨by decide, by rw [l0]; decide⟩ hno
  have hm0 : m = 0 := by omega
  subst hm0
  clear hm
  have hbad : ¬ badF 0 := by decide
  have hat : atF 0 0 = 0 := rfl
  have hcan : canN 9#32 (n : Int) := ⟨by decide, by decide, by omega, by omega⟩
  have gb := begin_cases (n := 0) (slot := 0) (v := 9#32) (m := n) so hbad hcan (by rw [hat, l0]; decide)
  rcases gb with ⟨t, e1, e2, e3, e4⟩ | ⟨_, _, _, q, _⟩
  rotate_left
  · omega
  have tn := begin_num (at_ := 0) (slot := 0) (v := 9#32) (m := n) n0
  rw [e1] at tn
  replace tn : Num t 1536 17 := tn
  rw [Int.toNat_natCast, ← hal] at e2
  have timg := e2.img (all := all) (by rw [hat, tn.len]; decide)
  have x03 := x1.trans (x2.trans x3)
  have S3' : SlAt w.heap.size w3 sb g gw fc 0 s0 := ⟨S3.f.base z1, S3.b, S3.n1, S3.n2, S3.room, S3.small⟩
  have gbeg := sbegin_calls S3' 0 9#32 n (by rw [l0]; exact n0) (by decide)
  rw [e1] at gbeg
  have hoa3 := (hoa.ext x2).ext x3
  have nS : ∀ {w' w''}, FlMod g gw w' w'' → Own 5 u8v w.heap.size w' aa ac all → Own 5 u8v w.heap.size w'' aa ac all := fun {w' w''} m h => m.keepOwn h fun k hk e => by
    have := (hoa.ge k hk).2
    rcases e with e | e <;> omega
  conv => whnf
  refine vcReg_meet lok (fun β : Bool => [(47, .bool β)]) (fun β w' => β = false ∧ SlAt w.heap.size w' sb g gw fc 0 t ∧ FlMod g gw w3 w') [47] (fun _ => rfl) rfl ?_ ?_
  · conv => whnf
    refine Calls.ret (gbeg) ?_
    rintro _ w4 ⟨rfl, S4, m4⟩
    conv => whnf
    exact ⟨_, ⟨rfl, trivial⟩, rfl, S4, m4⟩
  rintro β w4 ⟨rfl, S4, m4⟩
  have hoa4 := nS m4 hoa3
  have x04 := FlMod.above m4 x03 (by omega) (by omega)
  clear gbeg e1 e2 S3 S3' hoa3 e4 x03 m4 so sl n0
  conv => whnf
  refine vcCond_false lok (rfl) ?_
  conv => whnf
  refine ⟨by omega, ?_⟩
  conv => whnf
  refine ⟨by decide, ?_⟩
  intro z hz
  have hz16 : z = (((n + 63) / 64 : Nat) : Int) := by rw [hz]; exact (congrArg IntKind.i64.wrap (quo_nat (n + 63) 64)).trans (wi64 (by omega))
  clear hz
  subst hz16
  conv => whnf
  have gmany : ∃ many : Nat, many = (n + 63) / 64 ∧ 1 ≤ many ∧ many ≤ 10 ∧ n ≤ 64 * many ∧ ∀ k, k < many → 64 * k < n := ⟨_, rfl, by omega, by omega, by omega, fun k hk => by omega⟩
  obtain ⟨many, hmany, hm1, hm2, hm3, hm4⟩ := gmany
  rw [← hmany]
  have hac := hoa.le
  have hcm : maxLen ≤ 9223372036854775807 := by decide
  refine vcLoop_inv lok (σ := Nat)
    (fun i => [(13, .int .i64 i), (10, .pointer (some ⟨sb, 0, none⟩)), (8, .slice aa n ac), (12, .int .i64 many), (2, .slice oa cuts.length oc), (9, .pointer (some ⟨g, 0, none⟩))])
    (fun i w' => i ≤ 30 ∧ ∃ s, SlAt w.heap.size w' sb g gw fc 0 s ∧ Num s 1536 (200 * i + 17) ∧ s.off = false ∧ Img s.ws (atF 0 0) 9#32 all ∧ Own 5 u8v w.heap.size w' aa ac all ∧ Ext w w') (fun i => 30 - i)
    0 ⟨rfl, rfl, rfl, rfl, rfl, rfl, trivial⟩ ⟨Nat.zero_le _, t, S4, tn, e3, timg, hoa4, x04⟩ ?_
  clear S4 tn e3 timg hoa4 x04
  rintro i w5 ⟨hi30, s, S5, sn, so, simg, ho5, x5⟩
  have slen := sn.len
  conv => whnf
  refine vcReg_meet lok (fun β : Bool => [(58, .bool β)]) (fun β w' => w' = w5 ∧ β = decide (i < cuts.length ∧ i < 30)) [58] (fun _ => rfl) rfl ?_ ?_
  · conv => whnf
    refine bcase (fun h1 => ?_) (fun h1 => ?_)
    · have h1 := dt h1
      conv => whnf
      refine ⟨_, ⟨rfl, trivial⟩, rfl, ?_⟩
      rw [decide_eq_decide]; omega
    · have h1 := df h1
      conv => whnf
      exact ⟨_, ⟨rfl, trivial⟩, rfl, by rw [eq_comm, decide_eq_false_iff_not]; omega⟩
  rintro β w6 ⟨hw6, hβ⟩
  subst hw6
  conv => whnf
  refine vcCond_split lok rfl (fun h1 => ?_) (fun h1 => ?_)
  · rw [h1] at hβ
    have hlt2 := dt hβ.symm
    clear hβ
    have g5 := hcu.at i hlt2.1
    generalize cuts[i] = cm at *
    obtain ⟨pp, oo, hpa, hcell0⟩ := g5
    have hcell : ∀ k v, (pairC cm)[k]? = some v → w6.cell? ⟨pp, oo + i * 2 + k, none⟩ = some v := fun k v hv => Below.cell_of (w := w) x5 (cell_lt (hcell0 k v hv)) (hcell0 k v hv)
    have hx1 := cm.1.isLt
    conv => whnf
    refine vcDraw_go lok mixed (Ext w6) [] [0, 1, 2, 3, 4, 5, 6, 7, 8, 9, 10, 11, 12, 13] (by kernel_rfl) (fun w7 hw7 => ⟨hw7 ▸ Ext.drew w6, ?_⟩)
    have x7 : Ext w6 w7 := hw7 ▸ Ext.drew w6
    clear hw7
    conv => whnf
    refine ⟨pp, oo, hpa, ⟨by omega, by omega⟩, ?_⟩
    conv => whnf
    refine ⟨by decide, ?_⟩
    conv => whnf
    refine ⟨_, fun w' hw' => Below.cell_of hw' (cell_lt (hcell 0 _ rfl)) (hcell 0 _ rfl), ?_⟩
    conv => whnf
    refine ⟨by decide, ?_⟩
    intro z hz
    have hz28 : z = ((cm.1.toNat % 60 : Nat) : Int) := by rw [hz]; exact rem_nat _ 60
    clear hz
    subst hz28
    conv => whnf
    intro z hz
    have hz29 : z = ((cm.1.toNat % 60 : Nat) : Int) := by rw [hz]; exact wi64 (by omega)
    clear hz
    subst hz29
    conv => whnf
    refine ⟨pp, oo, hpa, ⟨by omega, by omega⟩, ?_⟩
    conv => whnf
    refine ⟨by decide, ?_⟩
    conv => whnf
    refine ⟨_, fun w' hw' => Below.cell_of hw' (cell_lt (hcell 1 _ rfl)) (hcell 1 _ rfl), ?_⟩
    conv => whnf
    have g8 := cut_calls (S5.ext x7).f ((cm.1.toNat % 60 : Nat) : Int) cm.2
    rw [cut_pos s _ (by omega) cm.2] at g8
    have sn8 := sn.cut ((cm.1.toNat % 60 : Nat) : Int) (by omega) cm.2
    rw [cut_pos s _ (by omega) cm.2] at sn8
    have gs1 : ∃ s1 : FS, s1 = { s with left := ((cm.1.toNat % 60 : Nat) : Int), mask := cm.2 } := ⟨_, rfl⟩
    obtain ⟨s1, hs1⟩ := gs1
    have sw1 : s1.ws = s.ws := by rw [hs1]
    have so1 : s1.off = false := by rw [hs1]; exact so
    rw [← hs1] at g8 sn8
    clear hs1
    refine Calls.ret (g8) ?_
    rintro _ w8 ⟨rfl, f8, m8⟩
    conv => whnf
    have S8 : SlAt w.heap.size w8 sb g gw fc 0 s1 := (S5.ext x7).next f8 m8 (by rw [sw1])
    have ho8 := nS m8 (ho5.ext x7)
    have x8 := FlMod.above m8 (x5.trans x7) (by omega) (by omega)
    have img1 : Img s1.ws (atF 0 0) 9#32 all := by rw [sw1]; exact simg
    replace sn8 : Num s1 1536 (200 * i + 18) := sn8
    refine Calls.ret (shave_calls S8 0) ?_
    rintro _ w9 ⟨rfl, x9⟩
    conv => whnf
    have eh1 := img_have so1 hbad img1
    rw [eh1]
    refine vcLoop_inv lok (σ := Nat)
      (fun k => [(16, .int .i64 k), (14, .int .u32 (haveB s1.ws (atF 0 0) all.length 32).toNat), (13, .int .i64 i), (10, .pointer (some ⟨sb, 0, none⟩)), (8, .slice aa n ac), (12, .int .i64 many), (2, .slice oa cuts.length oc), (9, .pointer (some ⟨g, 0, none⟩))])
      (fun k w' => k ≤ many ∧ ∃ s2, SlAt w.heap.size w' sb g gw fc 0 s2 ∧ Num s2 1536 (200 * i + 18 + 17 * k) ∧ Img s2.ws (atF 0 0) 9#32 all ∧ (∀ j, j < 32 → s1.ws.getD (atF 0 0 + 3 + j) 0#32 = 0#32 → s2.ws.getD (atF 0 0 + 3 + j) 0#32 = 0#32) ∧ Own 5 u8v w.heap.size w' aa ac all ∧ Ext w w') (fun k => many - k)
      0 ⟨rfl, rfl, rfl, rfl, rfl, rfl, rfl, rfl, trivial⟩ ⟨Nat.zero_le _, s1, S8.ext x9, sn8, img1, fun j _ q => q, ho8.ext x9, x8.trans x9⟩ ?_
    clear S8 ho8 x8 x9 m8 f8 eh1 S5 ho5 x5 x7 simg sn so slen hcell
    rintro k w10 ⟨hk, s2, S10, sn10, img2, hmk, ho10, x10⟩
    have sl10 := sn10.len
    conv => whnf
    refine vcReg_meet lok (fun β : Bool => [(86, .bool β)]) (fun β w' => w' = w10 ∧ β = (decide (k < many) && !s2.off)) [86] (fun _ => rfl) rfl ?_ ?_
    · conv => whnf
      refine bcase (fun h2 => ?_) (fun h2 => ?_)
      · have h2 := dt h2
        conv => whnf
        refine Calls.ret (fon_calls S10.f) ?_
        rintro _ w11 ⟨rfl, rfl⟩
        conv => whnf
        exact ⟨_, ⟨rfl, trivial⟩, rfl, by rw [decide_eq_true (by omega)]; rfl⟩
      · have h2 := df h2
        conv => whnf
        exact ⟨_, ⟨rfl, trivial⟩, rfl, by rw [decide_eq_false (by omega)]; rfl⟩
    rintro β2 w11 ⟨hw11, hβ2⟩
    subst hw11
    conv => whnf
    refine vcCond_split lok rfl (fun h3 => ?_) (fun h3 => ?_)
    · rw [h3] at hβ2
      have hkm : k < many := by
        by_cases q : k < many
        · exact q
        · rw [decide_eq_false q] at hβ2; cases hβ2
      have so2 : s2.off = false := by
        cases q : s2.off with
        | false => rfl
        | true => rw [q, decide_eq_true hkm] at hβ2; cases hβ2
      clear hβ2
      have hk2 := hm4 k hkm
      have gch := lchunk_calls ho10.sl (by omega) hac.1 (by omega) k (by omega)
      rw [hal] at gch
      conv => whnf
      refine Calls.ret (gch) ?_
      rintro _ w12 ⟨ca, cc, rfl, hcs, hw12⟩
      conv => whnf
      subst hw12
      have gwi := write_img (slot := 0) (n := 0) so2 hbad img2 k (by omega)
      have nn := write_num (at_ := 0) (slot := 0) (chunk := (k : Int)) (b := chunkF all k) sn10
      have gwr := swrite_calls (bc := cc) S10 0 (k : Int) hcs (by rw [chunkF_len]; have := lenC_le all.length k; omega) (by rw [sl10]; exact sn10) (by omega)
      have hres : ∃ t e, writeSF s2 0 0 (k : Int) (chunkF all k) = (t, e) ∧ ((e = 0 ∧ t.off = false) ∨ (e = 7 ∧ t.off = true)) ∧ Img t.ws (atF 0 0) 9#32 all ∧ (∀ j, j < 32 → s2.ws.getD (atF 0 0 + 3 + j) 0#32 = 0#32 → t.ws.getD (atF 0 0 + 3 + j) 0#32 = 0#32) := by
        rcases gwi with ⟨t, q1, q2, _, _, q5, q6, q7⟩ | ⟨t, q1, q2, _, _, q5, q6⟩
        · refine ⟨t, 0, q1, .inl ⟨rfl, q2⟩, q5, fun j hj h0 => ?_⟩
          by_cases e : j = k
          · subst e; exact q6
          · rw [q7 j hj e]; exact h0
        · exact ⟨t, 7, q1, .inr ⟨rfl, q2⟩, q5, q6⟩
      obtain ⟨t, e, q1, q2, q3, q4⟩ := hres
      rw [q1] at gwr nn
      clear gwi
      refine Calls.ret (gwr) ?_
      rintro _ w13 ⟨rfl, S13, m13⟩
      conv => whnf
      replace S13 : SlAt w.heap.size w13 sb g gw fc 0 t := S13
      replace nn : Num t 1536 (200 * i + 18 + 17 * k + 17) := nn
      refine vcReg_meet lok (fun β : Bool => [(104, .bool β)]) (fun β w' => w' = w13 ∧ β = false) [104] (fun _ => rfl) rfl ?_ ?_
      · rcases q2 with ⟨q2, q5⟩ | ⟨q2, q5⟩
        · subst q2
          conv => whnf
          exact ⟨_, ⟨rfl, trivial⟩, rfl, rfl⟩
        · subst q2
          conv => whnf
          refine Calls.ret (fon_calls S13.f) ?_
          rintro _ w14 ⟨rfl, rfl⟩
          conv => whnf
          exact ⟨_, ⟨rfl, trivial⟩, rfl, by rw [q5]; rfl⟩
      rintro β3 w14 ⟨hw14, rfl⟩
      subst hw14
      conv => whnf
      refine vcCond_false lok (rfl) ?_
      conv => whnf
      refine ⟨by omega, ?_⟩
      conv => whnf
      exact ⟨k + 1, ⟨rfl, rfl, rfl, rfl, rfl, rfl, rfl, rfl, trivial⟩, ⟨by omega, t, S13, nn.up (by omega), q3, fun j hj h0 => q4 j hj (hmk j hj h0), nS m13 ho10, FlMod.above m13 x10 (by omega) (by omega)⟩, by omega⟩
    · clear hβ2
      conv => whnf
      refine Calls.ret (start_calls S10.f) ?_
      rintro _ w12 ⟨rfl, f12, m12⟩
      conv => whnf
      have S12 : SlAt w.heap.size w12 sb g gw fc 0 (startF s2) := S10.next f12 m12 rfl
      have sn12 := sn10.start
      have so12 : (startF s2).off = false := rfl
      have img12 : Img (startF s2).ws (atF 0 0) 9#32 all := img2
      have hmk12 : ∀ j, j < 32 → s1.ws.getD (atF 0 0 + 3 + j) 0#32 = 0#32 → (startF s2).ws.getD (atF 0 0 + 3 + j) 0#32 = 0#32 := hmk
      have ho12 := nS m12 ho10
      have x12 := FlMod.above m12 x10 (by omega) (by omega)
      have gs3 : ∃ s3, s3 = startF s2 := ⟨_, rfl⟩
      obtain ⟨s3, hs3⟩ := gs3
      rw [← hs3] at S12 sn12 so12 img12 hmk12
      clear hs3 f12 m12 hmk img2
      refine Calls.ret (shave_calls S12 0) ?_
      rintro _ w13 ⟨rfl, x13⟩
      conv => whnf
      rw [img_have so12 hbad img12]
      intro y3 hz
      have hz54 : y3 = ((haveB s3.ws (atF 0 0) all.length 32 &&& haveB s1.ws (atF 0 0) all.length 32).toNat : Int) := by rw [hz]; exact and32 _ _
      clear hz
      subst hz54
      conv => whnf
      rw [have_sub hmk12]
      refine vcCond_false lok (by rw [decide_eq_true rfl]; rfl) ?_
      conv => whnf
      refine ⟨by omega, ?_⟩
      conv => whnf
      exact ⟨i + 1, ⟨rfl, rfl, rfl, rfl, rfl, rfl, trivial⟩, ⟨by omega, s3, S12.ext x13, sn12.up (by omega), so12, img12, ho12.ext x13, x12.trans x13⟩, by omega⟩
  · clear hβ
    conv => whnf
    have g8 := cut_calls S5.f 1048576 0#32
    rw [cut_pos s _ (by decide) 0#32] at g8
    have sn8 := sn.cut 1048576 (by decide) 0#32
    rw [cut_pos s _ (by decide) 0#32] at sn8
    have gs1 : ∃ s1 : FS, s1 = { s with left := 1048576, mask := 0#32 } := ⟨_, rfl⟩
    obtain ⟨s1, hs1⟩ := gs1
    have sw1 : s1.ws = s.ws := by rw [hs1]
    have so1 : s1.off = false := by rw [hs1]; exact so
    have sl1 : s1.left = 1048576 := by rw [hs1]
    rw [← hs1] at g8 sn8
    clear hs1
    refine Calls.ret (g8) ?_
    rintro _ w8 ⟨rfl, f8, m8⟩
    conv => whnf
    have S8 : SlAt w.heap.size w8 sb g gw fc 0 s1 := S5.next f8 m8 (by rw [sw1])
    have ho8 := nS m8 ho5
    have x8 := FlMod.above m8 x5 (by omega) (by omega)
    have img1 : Img s1.ws (atF 0 0) 9#32 all := by rw [sw1]; exact simg
    replace sn8 : Num s1 1536 (200 * i + 18) := sn8
    refine vcLoop_inv lok (σ := Nat)
      (fun k => [(20, .int .i64 k), (10, .pointer (some ⟨sb, 0, none⟩)), (8, .slice aa n ac), (12, .int .i64 many)])
      (fun k w' => k ≤ many ∧ ∃ s2, SlAt w.heap.size w' sb g gw fc 0 s2 ∧ Num s2 1536 (200 * i + 18 + 17 * k) ∧ s2.off = false ∧ 1048576 - 17 * (k : Int) ≤ s2.left ∧ Img s2.ws (atF 0 0) 9#32 all ∧ (∀ j, j < k → s2.ws.getD (atF 0 0 + 3 + j) 0#32 = 0#32) ∧ Own 5 u8v w.heap.size w' aa ac all ∧ Ext w w') (fun k => many - k)
      0 ⟨rfl, rfl, rfl, rfl, trivial⟩ ⟨Nat.zero_le _, s1, S8, sn8, so1, by rw [sl1]; decide, img1, fun j hj => absurd hj (Nat.not_lt_zero _), ho8, x8⟩ ?_
    clear S8 ho8 x8 m8 f8 S5 ho5 x5 simg sn so slen sn8 img1 so1 sl1
    rintro k w10 ⟨hk, s2, S10, sn10, so2, sl2, img2, hmk, ho10, x10⟩
    have sl10 := sn10.len
    conv => whnf
    refine vcCond_split lok rfl (fun h3 => ?_) (fun h3 => ?_)
    · have h3 := dt h3
      conv => whnf
      have hkm : k < many := by omega
      have hk2 := hm4 k hkm
      have gch := lchunk_calls ho10.sl (by omega) hac.1 (by omega) k (by omega)
      rw [hal] at gch
      refine Calls.ret (gch) ?_
      rintro _ w12 ⟨ca, cc, rfl, hcs, hw12⟩
      conv => whnf
      subst hw12
      have gwi := write_img (slot := 0) (n := 0) so2 hbad img2 k (by omega)
      have nn := write_num (at_ := 0) (slot := 0) (chunk := (k : Int)) (b := chunkF all k) sn10
      have gwr := swrite_calls (bc := cc) S10 0 (k : Int) hcs (by rw [chunkF_len]; have := lenC_le all.length k; omega) (by rw [sl10]; exact sn10) (by omega)
      rcases gwi with ⟨t, q1, q2, _, q4, q5, q6, q7⟩ | ⟨t, q1, q2, _, q4, q5, q6⟩
      rotate_left
      · omega
      rw [q1] at gwr nn
      refine Calls.ret (gwr) ?_
      rintro _ w13 ⟨rfl, S13, m13⟩
      conv => whnf
      replace S13 : SlAt w.heap.size w13 sb g gw fc 0 t := S13
      replace nn : Num t 1536 (200 * i + 18 + 17 * k + 17) := nn
      refine vcCond_false lok (rfl) ?_
      conv => whnf
      refine ⟨by omega, ?_⟩
      conv => whnf
      refine ⟨k + 1, ⟨rfl, rfl, rfl, rfl, trivial⟩, ⟨by omega, t, S13, nn.up (by omega), q2, by omega, q5, fun j hj => ?_, nS m13 ho10, FlMod.above m13 x10 (by omega) (by omega)⟩, by omega⟩
      by_cases e : j = k
      · subst e; exact q6
      · rw [q7 j (by omega) e]; exact hmk j (by omega)
    · have h3 := df h3
      conv => whnf
      have hall : allB s2.ws (atF 0 0) all.length 32 = true := allB_iff.2 fun j hj hm => hmk j (by omega)
      have eb := img_whole so2 hbad img2
      rw [hall, if_pos rfl] at eb
      refine Calls.ret (sbytes_calls S10 0) ?_
      rintro _ w12 ⟨xa, xc, rfl, hox, x12⟩
      conv => whnf
      rw [eb] at hox ⊢
      refine vcReg_go lok ?_
      conv => whnf
      refine ⟨_, run_toStr hox.sl, ?_⟩
      conv => whnf
      have hst := run_toStr (P := Try.prog) (c := ac) (ho10.ext x12).sl
      rw [hal] at hst
      refine ⟨_, hst, ?_⟩
      conv => whnf
      intro γ hγ
      have hγ2 : γ = true := by rw [str_eq hγ rfl rfl]; simp
      clear hγ
      subst hγ2
      conv => whnf
      refine Calls.ret (known22) ?_
      rintro _ w13 ⟨rfl, x13⟩
      conv => whnf
      exact ⟨rfl, x10.trans (x12.trans x13)⟩
end Go.Proofs.Ytgipackjnncabaa
