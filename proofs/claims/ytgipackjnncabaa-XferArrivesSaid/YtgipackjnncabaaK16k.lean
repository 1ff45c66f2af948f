/- Own texts of this claim, joined: L22e, L23c, L23e, L23f, Hd. -/
import Derived.Test.YtgipackjnncabaaK16j
import Derived.Test.YtgipackjnncabaaRows
import Derived.ProofKit

/- The law SlotsBegun, walked. -/
set_option linter.unusedVariables false
namespace Go.Proofs.Ytgipackjnncabaa
open Go.Vc Go.RowKit

theorem u32_any {z a : Int} (h : z = IntKind.u32.wrap a) : ∃ y : BitVec 32, z = (y.toNat : Int) := ⟨BitVec.ofInt 32 z, by rw [h, wu32, BitVec.toNat_ofInt]; omega⟩
theorem run_word (w : World) (x : BitVec 32) : ∃ w', (Instr.buildSlice 37 1 #[(0, u32v x)]).run Try.prog w = .ok (.slice (some ⟨w.heap.size, 0, none⟩) 1 1) w' ∧ Own 42 u32v w.heap.size w' (some ⟨w.heap.size, 0, none⟩) 1 [x] ∧ Ext w w' := by
  have g := run_buildN (P := Try.prog) (t := 37) (e := 42) e32.toElem [u32v x] (by simp [u32v, Value.oneCell']) (by simp) w
  exact ⟨_, g, own_lit (w := w) [x] (by simp), Ext.new _ _⟩
/-- what Head tells of words -/
def headV (ws : List (BitVec 32)) (p : Nat) : BitVec 32 × Nat × Bool := match headW ws p with
  | none => (0#32, 0, false)
  | some (v, m) => (v, m, true)
theorem headR_on {s : FS} {n : Nat} {slot : Int} (h : s.off = false) (hb : ¬ badF slot) : headR s n slot = headV s.ws (atF n slot) := headR_ok (check_ok h hb)
theorem haveF_on {s : FS} {n : Nat} {slot : Int} (h : s.off = false) (hb : ¬ badF slot) : haveF s n slot = haveW s.ws (atF n slot) := by unfold haveF; rw [if_neg (by rw [h]; simp [hb])]

theorem drop_ok {s : FS} {n : Nat} {slot : Int} (hs : s.off = false) (hb : ¬ badF slot) (hl : s.left ≠ 0) (hn : atF n slot + 768 ≤ s.ws.length) : ∃ t, dropSF s n slot = (t, 0) ∧ t.off = false ∧ headW t.ws (atF n slot) = none := by
  have hp : atF n slot = 256 * (n + 3 * slot.toNat) := by unfold atF; omega
  have e : dropSF s n slot = (s.did (fillF s.ws (256 * (n + 3 * slot.toNat)) 256), 0) := by
    unfold dropSF eraseF
    rw [check_ok hs hb, if_neg (by simp), hs, if_neg (by simp), if_neg (by omega), if_neg hl, Int.toNat_natCast]
  refine ⟨_, e, (did_off _ _).trans hs, headW_none (.inl ?_)⟩
  rw [did_ws, hp, fill_get0, if_pos (by omega)]

set_option maxRecDepth 100000 in
set_option maxHeartbeats 8000000 in
theorem slotsBegun_walk {w : World} {la : Option Addr} {lc : Nat} {l : List (BitVec 32)} (hl32 : Sl u32v w la l) (hll : l.length ≤ 9223372036854775807) (c0 c1 c2 : BitVec 32) (sz : Nat) (hsz : sz ≤ 65535) :
    Calls Try.prog 36 #[.slice la l.length lc, .agg #[.int .u32 c0.toNat, .int .u32 c1.toNat, .int .u32 c2.toNat], .int .u16 sz] w (Law w) := by
  refine calls_of_vc lok Try.func36 ?_ rfl
  conv => whnf
  intro w1 hw1
  have hc1 : Blk w1 w.heap.size 99 [u32v c0, u32v c1, u32v c2] ∨ Blk w1 w.heap.size 166 [u32v c0, u32v c1, u32v c2] := by right; rw [hw1]; exact Blk.new w 166 _
  replace hc1 : Blk w1 w.heap.size 166 [u32v c0, u32v c1, u32v c2] := by rw [hw1]; exact Blk.new w 166 _
  have x1 : Ext w w1 := by rw [hw1]; exact Ext.new _ _
  clear hw1
  have hclt := hc1.lt
  have gcb : ∃ cb, cb = w.heap.size := ⟨_, rfl⟩
  obtain ⟨cb, hcb⟩ := gcb
  rw [← hcb] at hc1 hclt ⊢
  conv => whnf
  refine vcLoop_inv lok (σ := Nat × Option Addr × Nat × List (BitVec 32))
    (fun ⟨i, ra, rc, ws⟩ => [(8, .int .i64 i), (7, .slice ra ws.length rc), (0, .slice la l.length lc), (4, .pointer (some ⟨cb, 0, none⟩)), (2, .int .u16 sz)])
    (fun ⟨i, ra, rc, ws⟩ w' => i ≤ 1536 ∧ ws.length = i ∧ Own 42 u32v w1.heap.size w' ra rc ws ∧ Ext w1 w') (fun t => 1536 - t.1)
    (0, none, 0, []) ⟨rfl, rfl, rfl, rfl, rfl, trivial⟩ ⟨Nat.zero_le _, rfl, Own.nil _ _ _ _, Ext.refl _⟩ ?_
  rintro ⟨i, ra, rc, ws⟩ w2 ⟨hi, hwl, ho2, x2⟩
  conv => whnf
  refine vcCond_split lok rfl (fun h2 => ?_) (fun h2 => ?_)
  · have h2 := dt h2
    conv => whnf
    intro z hz
    clear hz
    conv => whnf
    intro z2 hz2
    have gy := u32_any hz2
    obtain ⟨y0, hy0⟩ := gy
    clear hz2
    subst hy0
    conv => whnf
    refine vcCond_meet (fun y : BitVec 32 => [(9, .int .u32 y.toNat), (8, .int .i64 i), (7, .slice ra ws.length rc), (0, .slice la l.length lc), (4, .pointer (some ⟨cb, 0, none⟩)), (2, .int .u16 sz)]) (fun y w' => w' = w2) ?_ ?_
    · refine vcCond_split lok rfl (fun h3 => ?_) (fun h3 => ?_)
      · have h3 := dt h3
        conv => whnf
        refine ⟨by omega, ?_⟩
        intro z hz
        have hz10 : z = ((i % l.length : Nat) : Int) := by rw [hz]; exact rem_nat i l.length
        clear hz
        subst hz10
        conv => whnf
        have hix : i % l.length < l.length := Nat.mod_lt _ (by omega)
        have g11 := sl_get ((hl32.ext (x1.trans x2))) (((i % l.length : Nat) : Int)) (i % l.length) (by omega) (by omega)
        obtain ⟨p11, o11, ha11, hb11, hcell11⟩ := g11
        refine ⟨p11, o11, ha11, hb11, ?_⟩
        conv => whnf
        refine ⟨_, hcell11, ?_⟩
        conv => whnf
        exact ⟨_, ⟨rfl, rfl, rfl, rfl, rfl, rfl, trivial⟩, rfl⟩
      · conv => whnf
        exact ⟨y0, ⟨rfl, rfl, rfl, rfl, rfl, rfl, trivial⟩, rfl⟩
    rintro y w3 hw3
    subst hw3
    conv => whnf
    have g6 := run_word w3 y
    obtain ⟨w6, hr6, ho6, x6⟩ := g6
    refine ⟨_, _, hr6, ?_⟩
    conv => whnf
    have z6 := x6.size
    have z2 := x2.size
    have g7 := run_app (ty := 37) (d := 1) (ho2.ext x6) ho6.sl (by simp; omega) (by omega)
    obtain ⟨a7, c7, w7, hr7, ho7, hg7⟩ := g7
    refine ⟨_, _, hr7, ?_⟩
    have x7 : Ext w1 w7 := hg7.extOf (x2.trans x6) (fun g hg => (ho2.ge g hg).1)
    have el : (ws ++ [y]).length = i + 1 := by rw [List.length_append, hwl]; rfl
    have gy : ∃ ys, ys = ws ++ [y] := ⟨_, rfl⟩
    obtain ⟨ys, hys⟩ := gy
    rw [← hys] at ho7 el ⊢
    conv => whnf
    refine ⟨by omega, ?_⟩
    conv => whnf
    exact ⟨(i + 1, a7, c7, ys), ⟨rfl, rfl, rfl, rfl, rfl, trivial⟩, ⟨by omega, el, ho7, x7⟩, by show 1536 - (i + 1) < 1536 - i; omega⟩
  have h2 := df h2
  conv => whnf
  have hw1536 : ws.length = 1536 := by omega
  clear h2 hi hwl
  intro z hz
  have hz18 : z = (sz : Int) := by rw [hz]; exact wi64 (by omega)
  clear hz
  subst hz18
  conv => whnf
  refine ⟨by decide, ?_⟩
  intro z hz
  have hz19 : z = ((sz % 2048 : Nat) : Int) := by rw [hz]; exact rem_nat sz 2048
  clear hz
  subst hz19
  conv => whnf
  refine ⟨by omega, ?_⟩
  conv => whnf
  have gn : ∃ n : Nat, n = 1 + sz % 2048 ∧ 1 ≤ n ∧ n ≤ 2048 := ⟨_, rfl, by omega, by omega⟩
  obtain ⟨n, hn, hn1, hn2⟩ := gn
  rw [show (1 : Int) + ((sz % 2048 : Nat) : Int) = (n : Int) by omega]
  conv => whnf
  refine Calls.ret (of_big ho2.sl (by omega)) ?_
  rintro _ w3 hp
  conv => whnf
  rcases hp with ⟨_, g, gw, fc, rfl, f3, x3⟩ | ⟨hno, _⟩
  rotate_left
  · rw [hw1536] at hno; exact absurd hno (by decide)
  have so0 : (newFS ws).off = false := rfl
  have sn0 : Num (newFS ws) 1536 0 := ⟨hw1536, ⟨Int.le_refl _, Int.le_refl _⟩, by show (-1 : Int) ≤ _; decide⟩
  have gs0 : ∃ s0, s0 = newFS ws := ⟨_, rfl⟩
  obtain ⟨s0, hs0⟩ := gs0
  rw [← hs0] at f3 so0 sn0
  clear hs0
  have l0 := sn0.len
  have f3lo := f3.lo
  have f3lt := f3.lt
  have z1 := x1.size
  have z2 := x2.size
  have x03 := x1.trans (x2.trans x3)
  have hc3 := (hc1.ext x2).ext x3
  conv => whnf
  refine Calls.ret (sopen_calls f3 (by omega) 0) ?_
  rintro _ w4 hp
  conv => whnf
  rcases hp with ⟨hno, _, _⟩ | ⟨m, hm, _, sb, rfl, hsb, S4, x4⟩
  · exact absurd ⟨by decide, by rw [l0]; decide⟩ hno
  have hm0 : m = 0 := by omega
  subst hm0
  clear hm
  have hbad : ¬ badF 0 := by decide
  have hat : atF 0 0 = 0 := rfl
  have S4' : SlAt w.heap.size w4 sb g gw fc 0 s0 := ⟨S4.f.base (by omega), S4.b, S4.n1, S4.n2, S4.room, S4.small⟩
  clear S4
  conv => whnf
  refine vcReg_go lok ?_
  conv => whnf
  refine vcCond_false lok (rfl) ?_
  conv => whnf
  refine Calls.ret (shead_calls S4' 0) ?_
  rintro _ w5 ⟨rfl, x5⟩
  conv => whnf
  rw [headR_on so0 hbad]
  have gH0 : ∃ H, H = headV s0.ws (atF 0 0) := ⟨_, rfl⟩
  obtain ⟨H0, hH0⟩ := gH0
  rw [← hH0]
  have S5 := S4'.ext x5
  have hc5 := (hc3.ext x4).ext x5
  have x05 := x03.trans (x4.trans x5)
  have hc0lt := c0.isLt
  refine ⟨by decide, ?_⟩
  conv => whnf
  refine ⟨_, hc5.cell (i := 0) rfl, ?_⟩
  conv => whnf
  refine ⟨by decide, ?_⟩
  have gk8 : ∃ k8 : Nat, k8 = c0.toNat % 8 ∧ k8 < 8 := ⟨_, rfl, by omega⟩
  obtain ⟨k8, hk8, hk88⟩ := gk8
  intro z hz
  have hz31 : z = (k8 : Int) := by rw [hz, hk8]; exact rem_nat _ 8
  clear hz
  subst hz31
  conv => whnf
  intro z hz
  have hz32 : z = (k8 : Int) := by rw [hz]; exact wi64 (by omega)
  clear hz
  subst hz32
  conv => whnf
  refine ⟨by decide, ?_⟩
  conv => whnf
  have hcell1 : w5.cell? ⟨cb, 0 + (1 : Int).toNat * 1, none⟩ = some (u32v c1) := by rw [show 0 + (1 : Int).toNat * 1 = 0 + 1 from rfl]; exact hc5.cell (i := 1) rfl
  refine ⟨u32v c1, hcell1, ?_⟩
  conv => unfold vcPut; dsimp only
  rw [show Nat.blt 76 Try.f36.ntmps = true from rfl]
  conv => unfold vcOps; dsimp only
  conv => unfold vcOp; dsimp only [ev, evs]
  conv => whnf
  have g8 := cut_calls S5.f (k8 : Int) c1
  have sn8 := sn0.cut (k8 : Int) (by omega) c1
  rw [cut_pos s0 _ (by omega) c1] at g8 sn8
  have gs1 : ∃ s1 : FS, s1 = { s0 with left := (k8 : Int), mask := c1 } := ⟨_, rfl⟩
  obtain ⟨s1, hs1⟩ := gs1
  have sw1 : s1.ws = s0.ws := by rw [hs1]
  have so1 : s1.off = false := by rw [hs1]; exact so0
  rw [← hs1] at g8 sn8
  clear hs1
  replace sn8 : Num s1 1536 1 := sn8
  refine Calls.ret (g8) ?_
  rintro _ w8 ⟨rfl, f8, m8⟩
  conv => whnf
  have S8 : SlAt w.heap.size w8 sb g gw fc 0 s1 := S5.next f8 m8 (by rw [sw1])
  have x08 := FlMod.above m8 x05 (by omega) (by omega)
  have ncb : ¬ (cb = g ∨ cb = gw) := fun e => by rcases e with e | e <;> omega
  have hc8 := m8.keepBlk hc5 ncb
  have hcell2 : w8.cell? ⟨cb, 0 + (2 : Int).toNat * 1, none⟩ = some (u32v c2) := by rw [show 0 + (2 : Int).toNat * 1 = 0 + 2 from rfl]; exact hc8.cell (i := 2) rfl
  refine ⟨by decide, ?_⟩
  conv => whnf
  refine ⟨u32v c2, hcell2, ?_⟩
  conv => whnf
  have hc2lt := c2.isLt
  refine ⟨by decide, ?_⟩
  intro z hz
  have hz38 : z = ((c2.toNat % 1000 : Nat) : Int) := by rw [hz]; exact rem_nat _ 1000
  clear hz
  subst hz38
  conv => whnf
  have gv : ∃ v : BitVec 32, v = BitVec.ofNat 32 (1 + c2.toNat % 1000) := ⟨_, rfl⟩
  obtain ⟨v, hv⟩ := gv
  have hvn : v.toNat = 1 + c2.toNat % 1000 := by rw [hv, BitVec.toNat_ofNat]; omega
  clear hv
  intro z hz
  have hz39 : z = (v.toNat : Int) := by rw [hz, wu32]; omega
  clear hz
  subst hz39
  conv => whnf
  have hcan : canN v (n : Int) := ⟨fun e => by rw [e] at hvn; simp at hvn; omega, fun e => by rw [e] at hvn; have : ones.toNat = 4294967295 := rfl; omega, by omega, by omega⟩
  have gb := begin_cases (n := 0) (slot := 0) (v := v) (m := n) so1 hbad hcan (by rw [hat, sn8.len]; decide)
  have tn := begin_num (at_ := 0) (slot := 0) (v := v) (m := n) sn8
  have gbeg := sbegin_calls S8 0 v n (by rw [sn8.len]; exact sn8) (by decide)
  rw [Int.toNat_natCast, sw1] at gb
  have hres : ∃ t e, beginSF s1 0 0 v n = (t, e) ∧ ((e = 0 ∧ Fresh t.ws (atF 0 0) v n) ∨ (e = 7 ∧ (Fresh t.ws (atF 0 0) v n ∨ t.ws = s0.ws ∨ headW t.ws (atF 0 0) = none))) := by
    rcases gb with ⟨t, q1, q2, _, _⟩ | ⟨t, q1, _, _, q4⟩
    · exact ⟨t, 0, q1, .inl ⟨rfl, q2⟩⟩
    · exact ⟨t, 7, q1, .inr ⟨rfl, q4⟩⟩
  obtain ⟨t, e, q1, q2⟩ := hres
  rw [q1] at tn gbeg
  clear gb
  replace tn : Num t 1536 18 := tn
  refine Calls.ret (gbeg) ?_
  rintro _ w9 ⟨rfl, S9, m9⟩
  conv => whnf
  replace S9 : SlAt w.heap.size w9 sb g gw fc 0 t := S9
  have x09 := FlMod.above m9 x08 (by omega) (by omega)
  have hc9 := m9.keepBlk hc8 ncb
  refine Calls.ret (start_calls S9.f) ?_
  rintro _ w10 ⟨rfl, f10, m10⟩
  conv => whnf
  have S10 : SlAt w.heap.size w10 sb g gw fc 0 (startF t) := S9.next f10 m10 rfl
  have x010 := FlMod.above m10 x09 (by omega) (by omega)
  have hc10 := m10.keepBlk hc9 ncb
  have sn10 := tn.start
  have so10 : (startF t).off = false := rfl
  have sw10 : (startF t).ws = t.ws := rfl
  have gs3 : ∃ s3, s3 = startF t := ⟨_, rfl⟩
  obtain ⟨s3, hs3⟩ := gs3
  rw [← hs3] at S10 sn10 so10 sw10
  clear hs3 f10
  rw [← sw10] at q2
  refine Calls.ret (shead_calls S10 0) ?_
  rintro _ w11 ⟨rfl, x11⟩
  conv => whnf
  rw [headR_on so10 hbad]
  refine Calls.ret (shave_calls (S10.ext x11) 0) ?_
  rintro _ w12 ⟨rfl, x12⟩
  conv => whnf
  rw [haveF_on so10 hbad]
  have hc12 := (hc10.ext x11).ext x12
  -- what is told of what was begun
  have qF : Fresh s3.ws (atF 0 0) v n → headV s3.ws (atF 0 0) = (v, n, true) ∧ (haveW s3.ws (atF 0 0)).1 = 0#32 := fun q => ⟨(by unfold headV; rw [q.head]), q.have⟩
  have qS : s3.ws = s0.ws → headV s3.ws (atF 0 0) = headV s0.ws (atF 0 0) := fun q => by rw [q]
  have qN : headW s3.ws (atF 0 0) = none → (headV s3.ws (atF 0 0)).2.2 = false := fun q => by unfold headV; rw [q]
  have gH : ∃ H, H = headV s3.ws (atF 0 0) := ⟨_, rfl⟩
  obtain ⟨H, hH⟩ := gH
  rw [← hH0] at qS
  rw [← hH] at qF qS qN ⊢
  clear hH hH0
  have gV : ∃ V, V = (haveW s3.ws (atF 0 0)).1 := ⟨_, rfl⟩
  obtain ⟨V, hV⟩ := gV
  rw [← hV] at qF ⊢
  clear hV
  have qF1 : Fresh s3.ws (atF 0 0) v n → H.1 = v ∧ H.2.1 = n ∧ H.2.2 = true ∧ V = 0#32 := fun q => by
    have k := qF q
    rw [k.1]
    exact ⟨rfl, rfl, rfl, k.2⟩
  clear qF
  conv => whnf
  refine vcReg_meet lok (fun β : Bool => [(23, .bool β)]) (fun β w' => w' = w12 ∧ (Fresh s3.ws (atF 0 0) v n → β = true)) [23] (fun _ => rfl) rfl ?_ ?_
  · conv => whnf
    refine bcase (fun k1 => ?_) (fun k1 => ?_)
    · conv => whnf
      refine ⟨by decide, ?_⟩
      conv => whnf
      have hcell3 : w12.cell? ⟨cb, 0 + (2 : Int).toNat * 1, none⟩ = some (u32v c2) := by rw [show 0 + (2 : Int).toNat * 1 = 0 + 2 from rfl]; exact hc12.cell (i := 2) rfl
      refine ⟨u32v c2, hcell3, ?_⟩
      conv => whnf
      refine ⟨by decide, ?_⟩
      intro z hz
      have hz49 : z = ((c2.toNat % 1000 : Nat) : Int) := by rw [hz]; exact rem_nat _ 1000
      clear hz
      subst hz49
      conv => whnf
      intro z hz
      have hz50 : z = (v.toNat : Int) := by rw [hz, wu32]; omega
      clear hz
      subst hz50
      conv => whnf
      refine bcase (fun k2 => ?_) (fun k2 => ?_)
      · conv => whnf
        refine bcase (fun k3 => ?_) (fun k3 => ?_)
        · conv => whnf
          refine ⟨_, ⟨rfl, trivial⟩, rfl, fun q => ?_⟩
          rw [(qF1 q).2.2.2]
          rfl
        · conv => whnf
          exact ⟨_, ⟨rfl, trivial⟩, rfl, fun q => absurd (by rw [(qF1 q).2.1]) (df k3)⟩
      · conv => whnf
        exact ⟨_, ⟨rfl, trivial⟩, rfl, fun q => absurd (by rw [(qF1 q).1]) (df k2)⟩
    · conv => whnf
      exact ⟨_, ⟨rfl, trivial⟩, rfl, fun q => by rw [(qF1 q).2.2.1] at k1; cases k1⟩
  rintro β1 w13 ⟨hw13, hβ1⟩
  subst hw13
  conv => whnf
  refine vcReg_meet lok (fun β : Bool => [(24, .bool β)]) (fun β w' => w' = w13 ∧ (s3.ws = s0.ws → β = true)) [24] (fun _ => rfl) rfl ?_ ?_
  · conv => whnf
    refine bcase (fun k1 => ?_) (fun k1 => ?_)
    · conv => whnf
      refine bcase (fun k2 => ?_) (fun k2 => ?_)
      · conv => whnf
        exact ⟨_, ⟨rfl, trivial⟩, rfl, fun q => by rw [qS q]; exact decide_eq_true rfl⟩
      · conv => whnf
        exact ⟨_, ⟨rfl, trivial⟩, rfl, fun q => absurd (by rw [qS q]) (df k2)⟩
    · conv => whnf
      exact ⟨_, ⟨rfl, trivial⟩, rfl, fun q => by rw [qS q, beq_self_bool] at k1; cases k1⟩
  rintro β2 w14 ⟨hw14, hβ2⟩
  subst hw14
  conv => whnf
  refine vcReg_meet lok (fun β : Bool => [(153, .bool β)]) (fun β w' => w' = w14 ∧ β = false) [153] (fun _ => rfl) rfl ?_ ?_
  · rcases q2 with ⟨q2, q3⟩ | ⟨q2, q3⟩
    · have h1 := hβ1 q3
      subst h1
      subst q2
      conv => whnf
      exact ⟨_, ⟨rfl, trivial⟩, rfl, rfl⟩
    · subst q2
      rcases q3 with q3 | q3 | q3
      · have h1 := hβ1 q3
        subst h1
        conv => whnf
        refine bcase (fun k1 => ?_) (fun k1 => ?_)
        · conv => whnf
          exact ⟨_, ⟨rfl, trivial⟩, rfl, rfl⟩
        · conv => whnf
          exact ⟨_, ⟨rfl, trivial⟩, rfl, rfl⟩
      · have h2 := hβ2 q3
        subst h2
        conv => whnf
        refine bcase (fun k1 => ?_) (fun k1 => ?_)
        · conv => whnf
          refine bcase (fun k2 => ?_) (fun k2 => ?_)
          · conv => whnf
            exact ⟨_, ⟨rfl, trivial⟩, rfl, rfl⟩
          · conv => whnf
            exact ⟨_, ⟨rfl, trivial⟩, rfl, rfl⟩
        · conv => whnf
          exact ⟨_, ⟨rfl, trivial⟩, rfl, rfl⟩
      · have hb := qN q3
        rw [hb]
        conv => whnf
        exact ⟨_, ⟨rfl, trivial⟩, rfl, rfl⟩
  rintro β3 w15 ⟨hw15, rfl⟩
  subst hw15
  conv => whnf
  refine vcCond_false lok (rfl) ?_
  conv => whnf
  have x1115 := x11.trans x12
  have S15 := S10.ext x1115
  have g16 := cut_calls S15.f 1048576 0#32
  have sn16 := sn10.cut 1048576 (by decide) 0#32
  rw [cut_pos s3 _ (by decide) 0#32] at g16 sn16
  have gs4 : ∃ s4 : FS, s4 = { s3 with left := 1048576, mask := 0#32 } := ⟨_, rfl⟩
  obtain ⟨s4, hs4⟩ := gs4
  have so4 : s4.off = false := by rw [hs4]; exact so10
  have sl4 : s4.left = 1048576 := by rw [hs4]
  have sw4 : s4.ws = s3.ws := by rw [hs4]
  rw [← hs4] at g16 sn16
  clear hs4
  refine Calls.ret (g16) ?_
  rintro _ w16 ⟨rfl, f16, m16⟩
  conv => whnf
  have S16 : SlAt w.heap.size w16 sb g gw fc 0 s4 := S15.next f16 m16 (by rw [sw4])
  have x016 := FlMod.above m16 (x010.trans x1115) (by omega) (by omega)
  replace sn16 : Num s4 1536 20 := sn16
  have gd := drop_ok (n := 0) (slot := 0) so4 hbad (by rw [sl4]; decide) (by rw [hat, sn16.len]; decide)
  obtain ⟨t5, d1, d2, d3⟩ := gd
  have gdr := sdrop_calls S16 0 (by rw [sn16.len]; exact sn16) (by decide)
  rw [d1] at gdr
  refine Calls.ret (gdr) ?_
  rintro _ w17 ⟨rfl, S17, m17⟩
  conv => whnf
  replace S17 : SlAt w.heap.size w17 sb g gw fc 0 t5 := S17
  have x017 := FlMod.above m17 x016 (by omega) (by omega)
  have gh := shead_calls S17 0
  rw [headR_on d2 hbad] at gh
  have ev : headV t5.ws (atF 0 0) = (0#32, 0, false) := by unfold headV; rw [d3]
  rw [ev] at gh
  refine Calls.ret (gh) ?_
  rintro _ w18 ⟨rfl, x18⟩
  conv => whnf
  refine vcReg_go lok ?_
  conv => whnf
  refine Calls.ret (known22) ?_
  rintro _ w19 ⟨rfl, x19⟩
  conv => whnf
  exact ⟨rfl, x017.trans (x18.trans x19)⟩
end Go.Proofs.Ytgipackjnncabaa

/- Turns of the receiver's laws; the law XferRefuses, walked. -/
set_option linter.unusedVariables false
namespace Go.Proofs.Ytgipackjnncabaa
open Go.Vc Go.RowKit

/-- what a receiver is given: its cells, and what they read as -/
structure Tn where
  e : Ev
  slot : Int
  least : BitVec 32
  busy : Bool
  cut : BitVec 8
  mask : BitVec 32
def Tn.cells (t : Tn) : List Value := t.e.cells ++ [.int .i64 t.slot, u32v t.least, .bool t.busy, u8v t.cut, u32v t.mask]
theorem Tn.ev_cells (t : Tn) (i : Nat) (v : Value) (h : t.e.cells[i]? = some v) : t.cells[0 + i]? = some v := by
  rw [Nat.zero_add]
  have hl : i < t.e.cells.length := by
    rcases Nat.lt_or_ge i t.e.cells.length with q | q
    · exact q
    · rw [List.getElem?_eq_none q] at h; cases h
  exact (List.getElem?_append_left hl).trans h
theorem Tn.one (t : Tn) : ∀ u ∈ t.cells, u.oneCell' = true := by
  intro u hu
  simp only [Tn.cells, Ev.cells, Pk.cells, List.mem_cons, List.mem_append, List.not_mem_nil, or_false] at hu
  rcases hu with ((rfl | rfl | rfl) | rfl | rfl | rfl | rfl | rfl | rfl | rfl) | rfl | rfl | rfl | rfl | rfl <;> rfl
theorem fit_turn {w : World} {es : List Value} (h : Fit w (.st (.pair 10 (.st (.pair 1 .bool (.pair 1 .bool (.pair 1 (.slice 1 (.int .u8)) (.pair 7 (.st (.pair 1 (.int .i64) (.pair 1 (.int .u32) (.pair 1 (.int .i64) (.pair 1 (.int .i64) (.pair 1 (.int .i64) (.pair 1 (.int .u32) (.pair 1 (.slice 1 (.int .u8)) .unit)))))))) .unit)))))
    (.pair 1 (.int .i64) (.pair 1 (.int .u32) (.pair 1 .bool (.pair 1 (.int .u8) (.pair 1 (.int .u32) .unit))))))) es) : ∃ t : Tn, es = t.cells ∧ EvOk w t.e := by
  obtain ⟨c1, r1, e1, _, h1, c2, r2, e2, _, ⟨n2, h2, k2⟩, c3, r3, e3, _, ⟨n3, h3, k3⟩, c4, r4, e4, _, ⟨n4, h4⟩, c5, r5, e5, _, ⟨n5, h5, k5⟩, c6, r6, e6, _, ⟨n6, h6, k6⟩, h7⟩ := h
  have h7 : r6 = [] := h7
  have g := fit_ev h1
  obtain ⟨e, ee, he⟩ := g
  obtain ⟨m3, hm3⟩ := wf_u32 k3
  obtain ⟨m5, hm5⟩ := wf_u8 k5
  obtain ⟨m6, hm6⟩ := wf_u32 k6
  refine ⟨⟨e, n2, m3, n4, m5, m6⟩, ?_, he⟩
  rw [e1, e2, e3, e4, e5, e6, h2, h3, h4, h5, h6, h7, ee, hm3, hm5, hm6, List.append_nil]
  rfl

/-- what is refused -/
theorem rcv_err {s : FS} {n : Nat} {slot : Int} {least : BitVec 32} {busy : Bool} {b : List (BitVec 8)} (h : ¬ (unpackF b).2 = 0) : rcvF s n slot least busy b = (s, [], (unpackF b).2) := by
  unfold rcvF; rw [if_pos h]
theorem rcv_ack {s : FS} {n : Nat} {slot : Int} {least : BitVec 32} {busy : Bool} {b : List (BitVec 8)} (h0 : (unpackF b).2 = 0) (h : (unpackF b).1.kind = 3) : rcvF s n slot least busy b = (s, [], 4) := by
  unfold rcvF; rw [if_neg (fun q => q h0), if_pos h]
theorem rcv_stale {s : FS} {n : Nat} {slot : Int} {least : BitVec 32} {busy : Bool} {b : List (BitVec 8)} (h0 : (unpackF b).2 = 0) (h : ¬ (unpackF b).1.kind = 3) (hb : busy = true ∨ (unpackF b).1.ver.toNat ≤ least.toNat) :
    rcvF s n slot least busy b = (s, ackF (unpackF b).1.ver 0#32 0, 0) := by
  unfold rcvF; rw [if_neg (fun q => q h0), if_neg h, if_pos hb]

set_option maxRecDepth 100000 in
set_option maxHeartbeats 8000000 in
theorem xferRefuses_walk {w : World} {la : Option Addr} {lc : Nat} {l : List (BitVec 32)} (hl32 : Sl u32v w la l) (hll : l.length ≤ 9223372036854775807) (t : Tn) (ht : EvOk w t.e) :
    Calls Try.prog 39 #[.slice la l.length lc, .agg t.cells.toArray] w (Law w) := by
  refine calls_of_vc lok Try.func39 ?_ rfl
  conv => whnf
  intro w1 hw1
  have hc1 : Blk w1 w.heap.size 74 t.cells := by rw [hw1]; exact Blk.new w 74 _
  have x1 : Ext w w1 := by rw [hw1]; exact Ext.new _ _
  clear hw1
  have hclt := hc1.lt
  have gcb : ∃ cb, cb = w.heap.size := ⟨_, rfl⟩
  obtain ⟨cb, hcb⟩ := gcb
  rw [← hcb] at hc1 hclt ⊢
  conv => whnf
  refine vcLoop_inv lok (σ := Nat × Option Addr × Nat × List (BitVec 32))
    (fun ⟨i, ra, rc, ws⟩ => [(6, .int .i64 i), (5, .slice ra ws.length rc), (0, .slice la l.length lc), (3, .pointer (some ⟨cb, 0, none⟩))])
    (fun ⟨i, ra, rc, ws⟩ w' => i ≤ 1536 ∧ ws.length = i ∧ Own 42 u32v w1.heap.size w' ra rc ws ∧ Ext w1 w') (fun t => 1536 - t.1)
    (0, none, 0, []) ⟨rfl, rfl, rfl, rfl, trivial⟩ ⟨Nat.zero_le _, rfl, Own.nil _ _ _ _, Ext.refl _⟩ ?_
  rintro ⟨i, ra, rc, ws⟩ w2 ⟨hi, hwl, ho2, x2⟩
  conv => whnf
  refine vcCond_split lok rfl (fun h2 => ?_) (fun h2 => ?_)
  · have h2 := dt h2
    conv => whnf
    intro z hz
    clear hz
    conv => whnf
    intro z2 hz2
    have gy := u32_any hz2
    obtain ⟨y0, hy0⟩ := gy
    clear hz2
    subst hy0
    conv => whnf
    refine vcCond_meet (fun y : BitVec 32 => [(7, .int .u32 y.toNat), (6, .int .i64 i), (5, .slice ra ws.length rc), (0, .slice la l.length lc), (3, .pointer (some ⟨cb, 0, none⟩))]) (fun y w' => w' = w2) ?_ ?_
    · refine vcCond_split lok rfl (fun h3 => ?_) (fun h3 => ?_)
      · have h3 := dt h3
        conv => whnf
        refine ⟨by omega, ?_⟩
        intro z hz
        have hz10 : z = ((i % l.length : Nat) : Int) := by rw [hz]; exact rem_nat i l.length
        clear hz
        subst hz10
        conv => whnf
        have hix : i % l.length < l.length := Nat.mod_lt _ (by omega)
        have g11 := sl_get ((hl32.ext (x1.trans x2))) (((i % l.length : Nat) : Int)) (i % l.length) (by omega) (by omega)
        obtain ⟨p11, o11, ha11, hb11, hcell11⟩ := g11
        refine ⟨p11, o11, ha11, hb11, ?_⟩
        conv => whnf
        refine ⟨_, hcell11, ?_⟩
        conv => whnf
        exact ⟨_, ⟨rfl, rfl, rfl, rfl, rfl, trivial⟩, rfl⟩
      · conv => whnf
        exact ⟨y0, ⟨rfl, rfl, rfl, rfl, rfl, trivial⟩, rfl⟩
    rintro y w3 hw3
    subst hw3
    conv => whnf
    have g6 := run_word w3 y
    obtain ⟨w6, hr6, ho6, x6⟩ := g6
    refine ⟨_, _, hr6, ?_⟩
    conv => whnf
    have z6 := x6.size
    have z2 := x2.size
    have g7 := run_app (ty := 37) (d := 1) (ho2.ext x6) ho6.sl (by simp; omega) (by omega)
    obtain ⟨a7, c7, w7, hr7, ho7, hg7⟩ := g7
    refine ⟨_, _, hr7, ?_⟩
    have x7 : Ext w1 w7 := hg7.extOf (x2.trans x6) (fun g hg => (ho2.ge g hg).1)
    have el : (ws ++ [y]).length = i + 1 := by rw [List.length_append, hwl]; rfl
    have gy : ∃ ys, ys = ws ++ [y] := ⟨_, rfl⟩
    obtain ⟨ys, hys⟩ := gy
    rw [← hys] at ho7 el ⊢
    conv => whnf
    refine ⟨by omega, ?_⟩
    conv => whnf
    exact ⟨(i + 1, a7, c7, ys), ⟨rfl, rfl, rfl, rfl, trivial⟩, ⟨by omega, el, ho7, x7⟩, by show 1536 - (i + 1) < 1536 - i; omega⟩
  have h2 := df h2
  conv => whnf
  have hw1536 : ws.length = 1536 := by omega
  clear h2 hi hwl
  refine Calls.ret (of_big ho2.sl (by omega)) ?_
  rintro _ w3 hp
  conv => whnf
  rcases hp with ⟨_, g, gw, fc, rfl, f3, x3⟩ | ⟨hno, _⟩
  rotate_left
  · rw [hw1536] at hno; exact absurd hno (by decide)
  have sw0 : (newFS ws).ws = ws := rfl
  have sn0 : Num (newFS ws) 1536 0 := ⟨hw1536, ⟨Int.le_refl _, Int.le_refl _⟩, by show (-1 : Int) ≤ _; decide⟩
  have gs0 : ∃ s0, s0 = newFS ws := ⟨_, rfl⟩
  obtain ⟨s0, hs0⟩ := gs0
  rw [← hs0] at f3 sw0 sn0
  clear hs0
  have l0 := sn0.len
  have f3lo := f3.lo
  have f3lt := f3.lt
  have z1 := x1.size
  have z2 := x2.size
  have z3 := x3.size
  have x03 := x1.trans (x2.trans x3)
  have hc3 := (hc1.ext x2).ext x3
  have ho3 := ho2.ext x3
  have oge := fun b hb => (ho2.ge b hb).2
  conv => whnf
  refine Calls.ret (sopen_calls f3 (by omega) 0) ?_
  rintro _ w4 hp
  conv => whnf
  rcases hp with ⟨hno, _, _⟩ | ⟨m, hm, _, sb, rfl, hsb, S4, x4⟩
  · exact absurd ⟨by decide, by rw [l0]; decide⟩ hno
  have hm0 : m = 0 := by omega
  subst hm0
  clear hm
  have S4' : SlAt w.heap.size w4 sb g gw fc 0 s0 := ⟨S4.f.base (by omega), S4.b, S4.n1, S4.n2, S4.room, S4.small⟩
  clear S4
  have x04 := x03.trans x4
  have hc4 := hc3.ext x4
  have ho4 := ho3.ext x4
  conv => whnf
  refine vcReg_go lok ?_
  conv => whnf
  refine vcCond_false lok (rfl) ?_
  conv => whnf
  refine ⟨t.e.cells, rfl, hc4.cellsAt 0 _ t.ev_cells, ?_⟩
  conv => whnf
  have hebl := bytesE_len t.e
  refine Calls.ret (evBytes_calls t.e (ht.ext x04)) ?_
  rintro _ w5 ⟨a5, c5, rfl, hs5, hbc5, x5⟩
  conv => whnf
  have gbs : ∃ bs, bs = bytesE t.e := ⟨_, rfl⟩
  obtain ⟨bs, hbs⟩ := gbs
  rw [← hbs] at hs5 hbc5 hebl ⊢
  clear hbs
  conv => whnf
  refine Calls.ret (unpack_calls hs5 (by omega) hbc5) ?_
  rintro _ w6 ⟨a6, c6, rfl, ho6, x6⟩
  conv => whnf
  have gU : ∃ U, U = unpackF bs := ⟨_, rfl⟩
  obtain ⟨U, hU⟩ := gU
  have hUe : (unpackF bs).2 = U.2 := by rw [hU]
  have hUp : (unpackF bs).1 = U.1 := by rw [hU]
  rw [← hU] at ho6 ⊢
  clear hU
  obtain ⟨p, e⟩ := U
  have hUe : (unpackF bs).2 = e := hUe
  have hUp : (unpackF bs).1 = p := hUp
  have ho6 : Own 5 u8v w5.heap.size w6 a6 c6 p.data := ho6
  dsimp only
  conv => whnf
  intro w7 hw7
  have hb7 : Blk w7 w6.heap.size 112 (Pk.zero.cells none 0) := by rw [hw7]; exact Blk.new w6 112 _
  have x7 : Ext w6 w7 := by rw [hw7]; exact Ext.new _ _
  clear hw7
  conv => whnf
  have k8 := Blk.storeAgg lok hb7 (t := 112) (us := p.cells a6 c6) rfl 0 (Nat.le_refl 7) (Pk.one _ _ _)
  obtain ⟨w8, hr8, hb8, g8⟩ := k8
  have hb8 : Blk w8 w6.heap.size 112 (p.cells a6 c6) := hb8
  have x8 : Ext w6 w8 := g8.extOf x7 (fun g hg => by cases hg; exact Nat.le_refl _)
  refine ⟨w8, hr8, ?_⟩
  clear hr8 g8 hb7 x7
  have x48 := x5.trans (x6.trans x8)
  have x08 := x04.trans x48
  have S8 := S4'.ext x48
  have hc8 := hc4.ext x48
  have ho8 := ho4.ext x48
  have hs8 := hs5.ext (x6.trans x8)
  have z6 := (x4.trans (x5.trans x6)).size
  have gpb : ∃ pb, pb = w6.heap.size := ⟨_, rfl⟩
  obtain ⟨pb, hpb⟩ := gpb
  rw [← hpb] at hb8 ⊢
  conv => whnf
  refine ⟨_, hc8.cell (i := 10) rfl, ?_⟩
  conv => whnf
  refine ⟨_, hc8.cell (i := 11) rfl, ?_⟩
  conv => whnf
  refine ⟨_, hc8.cell (i := 12) rfl, ?_⟩
  conv => whnf
  refine Calls.ret (rcv_calls S8 t.slot t.least t.busy hs8 (by omega) hbc5 (by rw [l0]; exact sn0) (by decide)) ?_
  rintro _ w9 ⟨a9, c9, rfl, ho9, S9, m9⟩
  conv => whnf
  have x09 := FlMod.above m9 x08 (by omega) (by omega)
  have nfl : ∀ b, (b < w3.heap.size → b ≠ g → b ≠ gw → ¬ (b = g ∨ b = gw)) := fun b _ h1 h2 q => by rcases q with q | q; exact h1 q; exact h2 q
  have hc9 := m9.keepBlk hc8 (fun q => by rcases q with q | q <;> omega)
  have hb9 := m9.keepBlk hb8 (fun q => by rcases q with q | q <;> omega)
  have hw9 := m9.keepOwn ho8 (fun b hb q => by have := oge b hb; rcases q with q | q <;> omega)
  have gR : ∃ R, R = rcvF s0 0 t.slot t.least t.busy bs := ⟨_, rfl⟩
  obtain ⟨R, hR⟩ := gR
  rw [← hR] at ho9 S9 ⊢
  obtain ⟨r1, r2, r3⟩ := R
  have ho9 : Own 5 u8v w8.heap.size w9 a9 c9 r2 := ho9
  have S9 : SlAt w.heap.size w9 sb g gw fc 0 r1 := S9
  dsimp only
  conv => whnf
  refine vcCond_split lok rfl (fun k1 => ?_) (fun k1 => ?_)
  · -- no packet
    have k1 := ne_true k1
    have e1 := hR.trans (rcv_err (by rw [hUe]; exact k1))
    rw [hUe] at e1
    simp only [Prod.mk.injEq] at e1
    obtain ⟨e1, e2, e3⟩ := e1
    subst e1 e2 e3
    conv => whnf
    refine vcReg_go lok ?_
    conv => whnf
    refine bcase (fun _ => ?_) (fun q => absurd q (by simp))
    conv => whnf
    refine Calls.ret (fwords_calls (s := r1) S9.f (by omega)) ?_
    rintro _ w10 ⟨a10, c10, rfl, ho10, x10⟩
    conv => whnf
    refine Calls.ret (same_calls ho10.sl (hw9.ext x10).sl (by omega)) ?_
    rintro _ w11 ⟨rfl, x11⟩
    conv => whnf
    refine bcase (fun _ => ?_) (fun q => absurd q (by rw [sw0]; simp))
    conv => whnf
    refine Calls.ret (known23) ?_
    rintro _ w12 ⟨rfl, x12⟩
    conv => whnf
    exact ⟨rfl, x09.trans (x10.trans (x11.trans x12))⟩
  have k1 : e = 0 := ne_false k1
  conv => whnf
  refine ⟨_, hb9.cell (i := 0) rfl, ?_⟩
  conv => whnf
  refine vcCond_split lok rfl (fun k2 => ?_) (fun k2 => ?_)
  · -- an Ack
    have k2 := dt k2
    have e1 := hR.trans (rcv_ack (by rw [hUe]; exact k1) (by rw [hUp]; exact k2))
    simp only [Prod.mk.injEq] at e1
    obtain ⟨e1, e2, e3⟩ := e1
    subst e1 e2 e3
    conv => whnf
    refine vcReg_go lok ?_
    conv => whnf
    refine Calls.ret (fwords_calls (s := r1) S9.f (by omega)) ?_
    rintro _ w10 ⟨a10, c10, rfl, ho10, x10⟩
    conv => whnf
    refine Calls.ret (same_calls ho10.sl (hw9.ext x10).sl (by omega)) ?_
    rintro _ w11 ⟨rfl, x11⟩
    conv => whnf
    refine bcase (fun _ => ?_) (fun q => absurd q (by rw [sw0]; simp))
    conv => whnf
    refine Calls.ret (known23) ?_
    rintro _ w12 ⟨rfl, x12⟩
    conv => whnf
    exact ⟨rfl, x09.trans (x10.trans (x11.trans x12))⟩
  have k2 := df k2
  conv => whnf
  refine vcReg_meet lok (fun β : Bool => [(118, .bool β)]) (fun β w' => w' = w9 ∧ β = decide (t.busy = true ∨ p.ver.toNat ≤ t.least.toNat)) [118] (fun _ => rfl) rfl ?_ ?_
  · conv => whnf
    refine ⟨_, hc9.cell (i := 12) rfl, ?_⟩
    conv => whnf
    refine bcase (fun k3 => ?_) (fun k3 => ?_)
    · conv => whnf
      exact ⟨_, ⟨rfl, trivial⟩, rfl, by rw [decide_eq_true (.inl k3)]⟩
    · conv => whnf
      refine ⟨_, hb9.cell (i := 1) rfl, ?_⟩
      conv => whnf
      refine ⟨_, hc9.cell (i := 11) rfl, ?_⟩
      conv => whnf
      refine ⟨_, ⟨rfl, trivial⟩, rfl, ?_⟩
      rw [decide_eq_decide]
      exact ⟨fun q => .inr (by omega), fun q => by rcases q with q | q; rw [k3] at q; cases q; omega⟩
  rintro β w10 ⟨hw10, hβ⟩
  subst hw10
  conv => whnf
  refine vcCond_split lok rfl (fun k3 => ?_) (fun k3 => ?_)
  rotate_left
  · conv => whnf
    refine Calls.ret (known23) ?_
    rintro _ w12 ⟨rfl, x12⟩
    conv => whnf
    exact ⟨rfl, x09.trans x12⟩
  rw [k3] at hβ
  have k4 := dt hβ.symm
  have e1 := hR.trans (rcv_stale (by rw [hUe]; exact k1) (by rw [hUp]; exact k2) (by rw [hUp]; exact k4))
  rw [hUp] at e1
  simp only [Prod.mk.injEq] at e1
  obtain ⟨e1, e2, e3⟩ := e1
  subst e1 e3
  have hup := up_ack p.ver 0#32 0 (by decide)
  rw [← e2] at hup
  have hlen : r2.length ≤ 3000 := by rw [e2]; exact pack_len _
  have hle9 := ho9.le.1
  clear k3 hβ k4 hR e2
  conv => whnf
  refine Calls.ret (unpack_calls ho9.sl (by omega) hle9) ?_
  rintro _ w11 ⟨a11, c11, rfl, ho11, x11⟩
  conv => whnf
  rw [hup]
  dsimp only
  conv => whnf
  intro w12 hw12
  have hq12 : Blk w12 w11.heap.size 112 (Pk.zero.cells none 0) := by rw [hw12]; exact Blk.new w11 112 _
  have x12 : Ext w11 w12 := by rw [hw12]; exact Ext.new _ _
  clear hw12
  conv => whnf
  have k13 := Blk.storeAgg lok hq12 (t := 112) (us := (ackP p.ver 0#32 0).cells a11 c11) rfl 0 (Nat.le_refl 7) (Pk.one _ _ _)
  obtain ⟨w13, hr13, hq13, g13⟩ := k13
  have hq13 : Blk w13 w11.heap.size 112 ((ackP p.ver 0#32 0).cells a11 c11) := hq13
  have x13 : Ext w11 w13 := g13.extOf x12 (fun g hg => by cases hg; exact Nat.le_refl _)
  refine ⟨w13, hr13, ?_⟩
  have y13 := x11.trans x13
  have hb13 := hb9.ext y13
  have S13 := S9.ext y13
  have hw13 := hw9.ext y13
  clear hr13 g13 hq12 x12
  conv => whnf
  refine vcReg_go lok ?_
  conv => whnf
  refine ⟨_, hq13.cell (i := 0) rfl, ?_⟩
  conv => whnf
  refine ⟨_, hq13.cell (i := 4) rfl, ?_⟩
  conv => whnf
  refine ⟨_, hq13.cell (i := 1) rfl, ?_⟩
  conv => whnf
  refine ⟨_, hb13.cell (i := 1) rfl, ?_⟩
  conv => whnf
  refine bcase (fun _ => ?_) (fun q => absurd q (by simp [ackP]))
  conv => whnf
  refine Calls.ret (fwords_calls (s := r1) S13.f (by omega)) ?_
  rintro _ w14 ⟨a14, c14, rfl, ho14, x14⟩
  conv => whnf
  refine Calls.ret (same_calls ho14.sl (hw13.ext x14).sl (by omega)) ?_
  rintro _ w15 ⟨rfl, x15⟩
  conv => whnf
  refine bcase (fun _ => ?_) (fun q => absurd q (by rw [sw0]; simp))
  conv => whnf
  refine Calls.ret (known23) ?_
  rintro _ w16 ⟨rfl, x16⟩
  conv => whnf
  exact ⟨rfl, x09.trans (y13.trans (x14.trans (x15.trans x16)))⟩
end Go.Proofs.Ytgipackjnncabaa

/- The law XferArrives, walked. -/
set_option linter.unusedVariables false
namespace Go.Proofs.Ytgipackjnncabaa
open Go.Vc Go.RowKit

/-- bytes that lie somewhere -/
structure Bs where
  a : Option Addr
  l : List (BitVec 8)
  c : Nat
instance : Inhabited Bs := ⟨⟨none, [], 0⟩⟩
def slb (x : Bs) : Value := .slice x.a x.l.length x.c
theorem esb : ElemZ Try.prog 50 22 slb ⟨none, [], 0⟩ := elem_of (b := 24) (by kernel_rfl) (by kernel_rfl) (by omega) (fun _ => rfl)
theorem u8_any {z a : Int} (h : z = IntKind.u8.wrap a) : ∃ y : BitVec 8, z = (y.toNat : Int) := ⟨BitVec.ofInt 8 z, by rw [h, wu8, BitVec.toNat_ofInt]; omega⟩

/-- two lists of bytes, each with its row; all of it is new behind block Z, and apart -/
structure Air (Z : Nat) (w : World) (aa : Option Addr) (ac : Nat) (air : List Bs) (ba : Option Addr) (bc : Nat) (back : List Bs) : Prop where
  o1 : Own 22 slb Z w aa ac air
  o2 : Own 22 slb Z w ba bc back
  e1 : ∀ x ∈ air, Own 5 u8v Z w x.a x.c x.l
  e2 : ∀ x ∈ back, Own 5 u8v Z w x.a x.c x.l
  d0 : ∀ k, blockOf aa = some k → blockOf ba ≠ some k
  d1 : ∀ x ∈ air, ∀ k, blockOf x.a = some k → blockOf aa ≠ some k ∧ blockOf ba ≠ some k
  d2 : ∀ x ∈ back, ∀ k, blockOf x.a = some k → blockOf aa ≠ some k ∧ blockOf ba ≠ some k
section
variable {Z : Nat} {w w' : World} {aa ba : Option Addr} {ac bc : Nat} {air back : List Bs}
theorem Air.keep {S : Nat → Prop} (h : Air Z w aa ac air ba bc back) (m : Mod S w w') (hS : ∀ k, Z ≤ k → ¬ S k) : Air Z w' aa ac air ba bc back :=
  ⟨m.keepOwn h.o1 (fun k hk => hS k (h.o1.ge k hk).1), m.keepOwn h.o2 (fun k hk => hS k (h.o2.ge k hk).1), fun x hx => m.keepOwn (h.e1 x hx) (fun k hk => hS k ((h.e1 x hx).ge k hk).1),
    fun x hx => m.keepOwn (h.e2 x hx) (fun k hk => hS k ((h.e2 x hx).ge k hk).1), h.d0, h.d1, h.d2⟩
theorem Air.ext (h : Air Z w aa ac air ba bc back) (x : Ext w w') : Air Z w' aa ac air ba bc back := h.keep (Mod.ofExt (fun _ => False) x) (fun _ _ q => q)
theorem Air.swap (h : Air Z w aa ac air ba bc back) : Air Z w ba bc back aa ac air :=
  ⟨h.o2, h.o1, h.e2, h.e1, fun k hk e => h.d0 k e hk, fun x hx k hk => (h.d2 x hx k hk).symm, fun x hx k hk => (h.d1 x hx k hk).symm⟩
/-- one more -/
theorem Air.push (h : Air Z w aa ac air ba bc back) (hZ : Z ≤ w.heap.size) (x : Bs) (hx : Own 5 u8v Z w x.a x.c x.l) (hd : ∀ k, blockOf x.a = some k → blockOf aa ≠ some k ∧ blockOf ba ≠ some k) (hl : air.length ≤ 1000) :
    ∃ a1 w1 aa' ac' w2, (Instr.buildSlice 50 1 #[(0, slb x)]).run Try.prog w = .ok (.slice a1 1 1) w1 ∧
      (Builtin.append_ #[50, 50] 50 #[.slice aa air.length ac, .slice a1 1 1]).run Try.prog w1 = .ok (.slice aa' (air ++ [x]).length ac') w2 ∧
      Air Z w2 aa' ac' (air ++ [x]) ba bc back ∧ Mod (fun k => Z ≤ k) w w2 := by
  have hr1 := run_build1 (P := Try.prog) esb.toElem (v := slb x) rfl w
  have hs1 : Sl slb (w.alloc (.cells #[slb x] 22)) (some ⟨w.heap.size, 0, none⟩) [x] := Sl.one x w rfl
  have y1 : Ext w (w.alloc (.cells #[slb x] 22)) := Ext.new _ _
  have gw1 : ∃ w1, w1 = w.alloc (.cells #[slb x] 22) := ⟨_, rfl⟩
  obtain ⟨w1, hw1⟩ := gw1
  rw [← hw1] at hr1 hs1 y1
  clear hw1
  have h1 := h.ext y1
  have hx1 := hx.ext y1
  have z1 := y1.size
  have g := h1.o1.append (ty := 50) (d := 1) esb.toElem (fun _ => rfl) hs1 (by simp; omega) (by omega)
  obtain ⟨aa', ac', w2, hr2, ho2, hg2, hbl⟩ := g
  have m2 : Mod (fun k => blockOf aa = some k) w1 w2 := Mod.ofGr hg2 (fun k hk => hk)
  refine ⟨_, w1, aa', ac', w2, hr1, hr2, ⟨ho2, m2.keepOwn h1.o2 (fun k hk e => h.d0 k e hk), fun y hy => ?_, fun y hy => m2.keepOwn (h1.e2 y hy) (fun k hk e => (h.d2 y hy k hk).1 e), fun k hk e => ?_, fun y hy k hk => ?_, fun y hy k hk => ⟨fun e => ?_, (h.d2 y hy k hk).2⟩⟩, ?_⟩
  · rcases List.mem_append.1 hy with q | q
    · exact m2.keepOwn (h1.e1 y q) (fun k hk e => (h.d1 y q k hk).1 e)
    · rw [List.mem_singleton.1 q]
      exact m2.keepOwn hx1 (fun k hk e => (hd k hk).1 e)
  · rcases hbl with q | q
    · exact h.d0 k (q ▸ hk) e
    · have e1 : w1.heap.size = k := Option.some.inj (q.symm.trans hk)
      have := (h1.o2.ge k e).2
      omega
  · rcases List.mem_append.1 hy with q | q
    · refine ⟨fun e => ?_, (h.d1 y q k hk).2⟩
      rcases hbl with r | r
      · exact (h.d1 y q k hk).1 (r ▸ e)
      · have e1 : w1.heap.size = k := Option.some.inj (r.symm.trans e)
        have := ((h1.e1 y q).ge k hk).2
        omega
    · have hy2 := List.mem_singleton.1 q
      rw [hy2] at hk
      refine ⟨fun e => ?_, (hd k hk).2⟩
      rcases hbl with r | r
      · exact (hd k hk).1 (r ▸ e)
      · have e1 : w1.heap.size = k := Option.some.inj (r.symm.trans e)
        have := (hx1.ge k hk).2
        omega
  · rcases hbl with r | r
    · exact (h.d2 y hy k hk).1 (r ▸ e)
    · have e1 : w1.heap.size = k := Option.some.inj (r.symm.trans e)
      have := ((h1.e2 y hy).ge k hk).2
      omega
  · exact (Mod.ofExt _ y1).trans (m2.sub fun k _ hk => (h1.o1.ge k hk).1)
end

/-- the slots, the sender and the bytes -/
structure M16 (B Z : Nat) (w : World) (g gw fc sb b : Nat) (a : Option Addr) (c : Nat) (ra : Option Addr) (rc : Nat) (all : List (BitVec 8)) (s : FS) (ss : SS) : Prop where
  S : SlAt B w sb g gw fc 0 s
  N : SnAt 190 B w b a c ss
  A : Own 5 u8v B w ra rc all
  q : g < sb ∧ gw < sb ∧ sb < b ∧ b < Z
  qa : ∀ k, blockOf a = some k → sb < k ∧ k < Z
  qr : ∀ k, blockOf ra = some k → k < g ∧ k < gw
section
variable {B Z : Nat} {w w' : World} {g gw fc sb b c rc : Nat} {a ra : Option Addr} {all : List (BitVec 8)} {s t : FS} {ss tt : SS}
theorem M16.ext (h : M16 B Z w g gw fc sb b a c ra rc all s ss) (x : Ext w w') : M16 B Z w' g gw fc sb b a c ra rc all s ss := ⟨h.S.ext x, h.N.ext x, h.A.ext x, h.q, h.qa, h.qr⟩
theorem M16.rcv (h : M16 B Z w g gw fc sb b a c ra rc all s ss) (S' : SlAt B w' sb g gw fc 0 t) (m : FlMod g gw w w') : M16 B Z w' g gw fc sb b a c ra rc all t ss := by
  have q := h.q
  exact ⟨S', ⟨m.keepBlk h.N.blk (fun e => by rcases e with e | e <;> omega), m.keepOwn h.N.own (fun k hk e => by have := h.qa k hk; rcases e with e | e <;> omega), h.N.lo, h.N.ne⟩,
    m.keepOwn h.A (fun k hk e => by have := h.qr k hk; rcases e with e | e <;> omega), h.q, h.qa, h.qr⟩
theorem M16.far {T : Nat → Prop} (h : M16 B Z w g gw fc sb b a c ra rc all s ss) (m : Mod T w w') (hT : ∀ k, k < Z → ¬ T k) : M16 B Z w' g gw fc sb b a c ra rc all s ss := by
  have q := h.q
  exact ⟨⟨h.S.f.keep m (hT _ (by omega)) (hT _ (by omega)), m.keepBlk h.S.b (hT _ (by omega)), h.S.n1, h.S.n2, h.S.room, h.S.small⟩,
    ⟨m.keepBlk h.N.blk (hT _ (by omega)), m.keepOwn h.N.own (fun k hk => hT k (h.qa k hk).2), h.N.lo, h.N.ne⟩, m.keepOwn h.A (fun k hk => hT k (by have := h.qr k hk; omega)), h.q, h.qa, h.qr⟩
theorem M16.snd (h : M16 B Z w g gw fc sb b a c ra rc all s ss) (N' : SnAt 190 B w' b a c tt) (gr : Gr w w' (some b)) : M16 B Z w' g gw fc sb b a c ra rc all s tt := by
  have q := h.q
  have m : Mod (fun k => k = b) w w' := Mod.ofGr gr (fun k hk => (Option.some.inj hk).symm)
  exact ⟨⟨h.S.f.keep m (by omega) (by omega), m.keepBlk h.S.b (by omega), h.S.n1, h.S.n2, h.S.room, h.S.small⟩, N', m.keepOwn h.A (fun k hk => by have := h.qr k hk; omega), h.q, h.qa, h.qr⟩
end
theorem air_len {all x : List (BitVec 8)} (h : AirOk all x) : x.length ≤ 3000 := by
  rcases h with rfl | rfl | ⟨k, _, rfl⟩
  · exact Nat.zero_le _
  · exact pack_len _
  · exact pack_len _
theorem ack_len (ver hv : BitVec 32) (st : Int) : (ackF ver hv st).length ≤ 3000 := pack_len _
theorem back_len {all y : List (BitVec 8)} {s : FS} (h : BackOk all s y) : y.length ≤ 3000 := by
  rcases h with rfl | rfl | ⟨_, hv, j, _, _, rfl⟩ | ⟨_, hv, rfl⟩
  · exact Nat.zero_le _
  · exact ack_len _ _ _
  · exact ack_len _ _ _
  · exact ack_len _ _ _
theorem rno_new : RNo (newFS (List.replicate (256 * (6 : Int).toNat) ones)) := by
  have hlen : (newFS (List.replicate (256 * (6 : Int).toNat) ones)).ws.length = 1536 := List.length_replicate
  refine ⟨rfl, by show (-1 : Int) < 0; decide, headW_none (.inl ?_), by rw [hlen]; decide⟩
  show (List.replicate (256 * (6 : Int).toNat) ones).getD (atF 0 1) 0#32 = ones
  have e : atF 0 1 < (List.replicate (256 * (6 : Int).toNat) ones).length := by rw [List.length_replicate]; decide
  simp only [List.getD, List.getElem?_eq_getElem e, List.getElem_replicate, Option.getD_some]
theorem sn_data {all : List (BitVec 8)} {s : FS} {ss : SS} (h : SOk all s ss) (hl : all.length ≤ 2048) : ss.data.length ≤ 2048 ∧ ss.wait ≤ 9223372036854775807 ∧ ss.ver ≠ 0#32 := by
  have := h.w1
  exact ⟨by rw [h.data]; exact hl, by omega, by rw [h.ver]; decide⟩
end Go.Proofs.Ytgipackjnncabaa

/- The law XferArrives: the walk. -/
set_option linter.unusedVariables false
namespace Go.Proofs.Ytgipackjnncabaa
open Go.Vc Go.RowKit

theorem rcv_num2 {s : FS} {N i n : Nat} {slot : Int} {least : BitVec 32} {busy : Bool} {b : List (BitVec 8)} (h : Num s N i) : Num (rcvF s n slot least busy b).1 N (i + 34) := by
  unfold rcvF
  split
  · exact h.up (by omega)
  split
  · exact h.up (by omega)
  split
  · exact h.up (by omega)
  split
  · unfold offerF
    split
    · exact h.up (by omega)
    split
    · exact h.up (by omega)
    split
    · exact (begin_num h).up (by omega)
    · exact (begin_num h).up (by omega)
  · unfold dataF
    split
    · exact h.up (by omega)
    split
    · exact (write_num h).up (by omega)
    split
    · split
      · exact (drop_num (write_num h)).up (by omega)
      · exact (drop_num (write_num h)).up (by omega)
    · exact (write_num h).up (by omega)

theorem rcv_len {s : FS} {n : Nat} {slot : Int} {least : BitVec 32} {busy : Bool} {b : List (BitVec 8)} : (rcvF s n slot least busy b).2.1.length ≤ 3000 := by
  unfold rcvF
  split
  · exact Nat.zero_le _
  split
  · exact Nat.zero_le _
  split
  · exact ack_len _ _ _
  split
  · unfold offerF
    split
    · exact ack_len _ _ _
    split
    · exact ack_len _ _ _
    split
    · exact ack_len _ _ _
    · exact Nat.zero_le _
  · unfold dataF
    split
    · exact ack_len _ _ _
    split
    · exact ack_len _ _ _
    split
    · split
      · exact ack_len _ _ _
      · exact Nat.zero_le _
    · exact Nat.zero_le _
theorem talk_len {all : List (BitVec 8)} {i k : Nat} {s : FS} {ss : SS} {x : List (BitVec 8)} (h : Talk all i k s ss x) : x.length ≤ 3000 := by
  obtain ⟨_, _, h⟩ := h
  rcases h with ⟨rfl, _⟩ | ⟨_, _, rfl⟩ | ⟨_, _, j, _, rfl, _⟩
  · exact Nat.zero_le _
  · exact pack_len _
  · exact pack_len _
theorem wu8n {n : Nat} (h : n < 256) : IntKind.u8.wrap (n : Int) = (n : Int) := by rw [wu8]; omega

/-- what goes on ahead: a state of the noise -/
structure St16 where
  s : FS
  ss : SS
  aa : Option Addr
  ac : Nat
  air : List Bs
  ba : Option Addr
  bc : Nat
  back : List Bs
structure In16 (B Z : Nat) (w0 w : World) (g gw fc sb b : Nat) (a : Option Addr) (c : Nat) (ra : Option Addr) (rc : Nat) (all : List (BitVec 8)) (i : Nat) (x : St16) : Prop where
  m : M16 B Z w g gw fc sb b a c ra rc all x.s x.ss
  air : Air Z w x.aa x.ac x.air x.ba x.bc x.back
  r : ROk all x.s
  k : SOk all x.s x.ss
  p1 : ∀ y ∈ x.air, AirOk all y.l
  p2 : ∀ y ∈ x.back, BackOk all x.s y.l
  n : Num x.s 1536 (34 * i)
  l1 : x.air.length ≤ i
  l2 : x.back.length ≤ i
  x : Ext w0 w
  z : Z ≤ w.heap.size

set_option maxRecDepth 100000 in
set_option maxHeartbeats 16000000 in
theorem xferArrives_walk {w : World} {la : Option Addr} {lc : Nat} {bs : List (BitVec 8)} (hl8 : Sl u8v w la bs) (hll : bs.length ≤ lc) (sz : Nat) (hsz : sz ≤ 65535) {na : Option Addr} {nc : Nat} {ns : List (BitVec 8)} (hn8 : Sl u8v w na ns) (hnl : ns.length ≤ nc) :
    Calls Try.prog 16 #[.slice la bs.length lc, .int .u16 sz, .slice na ns.length nc] w (Law w) := by
  refine calls_of_vc lok Try.func16 ?_ rfl
  conv => whnf
  intro z hz
  have hz2 : z = (sz : Int) := by rw [hz]; exact wi64 (by omega)
  clear hz
  subst hz2
  conv => whnf
  refine ⟨by decide, ?_⟩
  intro z hz
  have hz3 : z = ((sz % 2048 : Nat) : Int) := by rw [hz]; exact rem_nat sz 2048
  clear hz
  subst hz3
  conv => whnf
  refine ⟨by omega, ?_⟩
  conv => whnf
  have gn : ∃ n : Nat, n = 1 + sz % 2048 ∧ 1 ≤ n ∧ n ≤ 2048 := ⟨_, rfl, by omega, by omega⟩
  obtain ⟨n, hn, hn1, hn2⟩ := gn
  rw [show (1 : Int) + ((sz % 2048 : Nat) : Int) = (n : Int) by omega]
  conv => whnf
  refine vcLoop_inv lok (σ := Nat × Option Addr × Nat × List (BitVec 8))
    (fun ⟨i, ra, rc, ws⟩ => [(9, .int .i64 i), (8, .slice ra ws.length rc), (7, .int .i64 n), (0, .slice la bs.length lc), (2, .slice na ns.length nc)])
    (fun ⟨i, ra, rc, ws⟩ w' => i ≤ n ∧ ws.length = i ∧ Own 5 u8v w.heap.size w' ra rc ws ∧ Ext w w') (fun t => n - t.1)
    (0, none, 0, []) ⟨rfl, rfl, rfl, rfl, rfl, trivial⟩ ⟨Nat.zero_le _, rfl, Own.nil _ _ _ _, Ext.refl _⟩ ?_
  rintro ⟨i, ra, rc, ws⟩ w2 ⟨hi, hwl, ho2, x2⟩
  conv => whnf
  refine vcCond_split lok rfl (fun h2 => ?_) (fun h2 => ?_)
  · have h2 := dt h2
    conv => whnf
    refine ⟨by omega, ?_⟩
    conv => whnf
    intro z2 hz2
    have gy := u8_any hz2
    obtain ⟨y0, hy0⟩ := gy
    clear hz2
    subst hy0
    conv => whnf
    refine vcCond_meet (fun y : BitVec 8 => [(10, .int .u8 y.toNat), (9, .int .i64 i), (8, .slice ra ws.length rc), (7, .int .i64 n), (0, .slice la bs.length lc), (2, .slice na ns.length nc)]) (fun y w' => w' = w2) ?_ ?_
    · refine vcCond_split lok rfl (fun h3 => ?_) (fun h3 => ?_)
      · have h3 := dt h3
        conv => whnf
        refine ⟨by omega, ?_⟩
        intro z hz
        have hz13 : z = ((i % bs.length : Nat) : Int) := by rw [hz]; exact rem_nat i bs.length
        clear hz
        subst hz13
        conv => whnf
        have hix : i % bs.length < bs.length := Nat.mod_lt _ (by omega)
        have g4 := (hl8.ext x2).at ((i % bs.length : Nat) : Int) (by omega) (by omega)
        obtain ⟨p4, o4, ha4, hc4⟩ := g4
        refine ⟨p4, o4, ha4, ⟨by omega, by omega⟩, ?_⟩
        conv => whnf
        refine ⟨_, hc4, ?_⟩
        have gv : ∃ v, v = bs.getD ((i % bs.length : Nat) : Int).toNat default := ⟨_, rfl⟩
        obtain ⟨v, hv⟩ := gv
        rw [← hv]
        conv => whnf
        exact ⟨v, ⟨rfl, rfl, rfl, rfl, rfl, rfl, trivial⟩, rfl⟩
      · conv => whnf
        exact ⟨y0, ⟨rfl, rfl, rfl, rfl, rfl, rfl, trivial⟩, rfl⟩
    rintro y w3 hw3
    subst hw3
    conv => whnf
    have g6 := run_byte w3 y
    obtain ⟨w6, hr6, hs6, x6⟩ := g6
    refine ⟨_, _, hr6, ?_⟩
    conv => whnf
    have z6 := x6.size
    have z2 := x2.size
    have g7 := (ho2.ext x6).append (ty := 22) (d := 1) e8.toElem (fun _ => rfl) hs6 (by simp; omega) (by omega)
    obtain ⟨a7, c7, w7, hr7, ho7, hg7, _⟩ := g7
    refine ⟨_, _, hr7, ?_⟩
    have x7 : Ext w w7 := hg7.extOf (x2.trans x6) (fun g hg => (ho2.ge g hg).1)
    have el : (ws ++ [y]).length = i + 1 := by rw [List.length_append, hwl]; rfl
    have gy : ∃ ys, ys = ws ++ [y] := ⟨_, rfl⟩
    obtain ⟨ys, hys⟩ := gy
    rw [← hys] at ho7 el ⊢
    conv => whnf
    refine ⟨by omega, ?_⟩
    conv => whnf
    exact ⟨(i + 1, a7, c7, ys), ⟨rfl, rfl, rfl, rfl, rfl, trivial⟩, ⟨by omega, el, ho7, x7⟩, by show n - (i + 1) < n - i; omega⟩
  have h2 := df h2
  conv => whnf
  have gall : ∃ all, all = ws ∧ 1 ≤ all.length ∧ all.length ≤ 2048 := ⟨ws, rfl, by omega, by omega⟩
  obtain ⟨all, hall, hal⟩ := gall
  rw [← hall] at ho2 ⊢
  clear h2 hi hwl hall hn hn1 hn2
  refine Calls.ret (new_calls 6) ?_
  rintro _ w3 hp
  conv => whnf
  rcases hp with ⟨hno, _, _⟩ | ⟨_, g, gw, fc, rfl, f3, x3⟩
  · exact absurd hno (by decide)
  have rno := rno_new
  have gs0 : ∃ s0, s0 = newFS (List.replicate (256 * (6 : Int).toNat) ones) ∧ Num s0 1536 0 := ⟨_, rfl, List.length_replicate, ⟨Int.le_refl _, Int.le_refl _⟩, by show (-1 : Int) ≤ _; decide⟩
  obtain ⟨s0, hs0, sn0⟩ := gs0
  rw [← hs0] at f3 rno
  clear hs0
  have l0 := sn0.len
  have f3lo := f3.lo
  have f3lt := f3.lt
  have z2 := x2.size
  have z3 := x3.size
  conv => whnf
  refine Calls.ret (sopen_calls f3 (by omega) 0) ?_
  rintro _ w4 hp
  conv => whnf
  rcases hp with ⟨hno, _, _⟩ | ⟨m, hm, _, sb, rfl, hsb, S4, x4⟩
  · exact absurd ⟨by decide, by rw [l0]; decide⟩ hno
  have hm0 : m = 0 := by omega
  subst hm0
  clear hm
  have S4lt := S4.b.lt
  have S4' : SlAt w.heap.size w4 sb g gw fc 0 s0 := ⟨S4.f.base (by omega), S4.b, S4.n1, S4.n2, S4.room, S4.small⟩
  clear S4
  have x24 := x3.trans x4
  have x04 := x2.trans x24
  have ho4 := ho2.ext x24
  have z4 := x4.size
  have oge := fun b hb => (ho2.ge b hb).2
  conv => whnf
  refine Calls.ret (newSender_calls 3#32 ho4.sl (by omega)) ?_
  rintro _ w5 hp
  conv => whnf
  rcases hp with ⟨hno, _⟩ | ⟨_, b, a, c, rfl, N5, x5⟩
  · rcases hno with q | q | q
    · exact absurd q (by decide)
    · omega
    · omega
  have N5lo := N5.lo
  have N5lt := N5.blk.lt
  have gss : ∃ ss0 : SS, ss0 = ⟨3#32, all, 0#32, false, false, 0⟩ := ⟨_, rfl⟩
  obtain ⟨ss0, hss0⟩ := gss
  rw [← hss0] at N5
  have k0 : SOk all s0 ss0 := by
    rw [hss0]
    exact ⟨rfl, rfl, (by decide : (0 : Int) ≤ 0), (by decide : (0 : Int) ≤ 4), (fun q => by cases q), (fun q => by cases q)⟩
  clear hss0
  have x05 := x04.trans x5
  have z5 := x5.size
  have M5 : M16 w.heap.size w5.heap.size w5 g gw fc sb b a c ra rc all s0 ss0 := ⟨S4'.ext x5, N5.base (by omega), ho4.ext x5, ⟨by omega, by omega, by omega, by omega⟩, fun k hk => by have := N5.own.ge k hk; omega, fun k hk => by have := oge k hk; omega⟩
  have I5 : In16 w.heap.size w5.heap.size w w5 g gw fc sb b a c ra rc all 0 ⟨s0, ss0, none, 0, [], none, 0, []⟩ :=
    ⟨M5, ⟨Own.nil _ _ _ _, Own.nil _ _ _ _, (fun x hx => by cases hx), (fun x hx => by cases hx), (fun k hk => by cases hk), (fun x hx => by cases hx), (fun x hx => by cases hx)⟩, .inl rno, k0, (fun x hx => by cases hx), (fun x hx => by cases hx), sn0, Nat.le_refl _, Nat.le_refl _, x05, Nat.le_refl _⟩
  have gZ : ∃ Z, Z = w5.heap.size := ⟨_, rfl⟩
  obtain ⟨Z, hZ⟩ := gZ
  rw [← hZ] at I5
  clear M5 N5 S4' ho2 ho4 f3 x2 x3 x4 x5 x24 x04 x05 z2 z3 z4 z5 oge f3lo f3lt S4lt N5lo N5lt hsb hZ rno k0 sn0 l0
  conv => whnf
  refine vcReg_meet lok (fun β : Bool => [(79, .bool β)]) (fun β w' => w' = w5 ∧ β = false) [79] (fun _ => rfl) rfl ?_ ?_
  · conv => whnf
    exact ⟨_, ⟨rfl, trivial⟩, rfl, rfl⟩
  rintro β w6 ⟨hw6, rfl⟩
  subst hw6
  conv => whnf
  refine vcCond_false lok (rfl) ?_
  conv => whnf
  refine vcLoop_inv lok (σ := Nat × St16)
    (fun ⟨i, x⟩ => [(18, .int .i64 i), (16, .slice x.aa x.air.length x.ac), (17, .slice x.ba x.back.length x.bc), (12, .pointer (some ⟨sb, 0, none⟩)), (14, .pointer (some ⟨b, 0, none⟩)), (8, .slice ra all.length rc), (2, .slice na ns.length nc)])
    (fun ⟨i, x⟩ w' => i ≤ ns.length ∧ i ≤ 80 ∧ In16 w.heap.size Z w w' g gw fc sb b a c ra rc all i x) (fun t => 80 - t.1)
    (0, ⟨s0, ss0, none, 0, [], none, 0, []⟩) ⟨rfl, rfl, rfl, rfl, rfl, rfl, rfl, trivial⟩ ⟨Nat.zero_le _, Nat.zero_le _, I5⟩ ?_
  rintro ⟨i, st⟩ w7 ⟨hi, hi80, I7⟩
  obtain ⟨s, ss, aa, ac, air, ba, bc, back⟩ := st
  obtain ⟨M7, A7, r7, k7, p1, p2, sn, hl1, hl2, x7, hz7⟩ := I7
  dsimp only at M7 A7 r7 k7 p1 p2 sn hl1 hl2
  have sd := sn_data k7 hal.2
  have hq := M7.q
  conv => whnf
  refine vcReg_meet lok (fun β : Bool => [(92, .bool β)]) (fun β w' => w' = w7 ∧ (β = true → i < ns.length ∧ i < 80 ∧ ss.done = false)) [92] (fun _ => rfl) rfl ?_ ?_
  · conv => whnf
    refine bcase (fun h1 => ?_) (fun h1 => ?_)
    · have h1 := dt h1
      conv => whnf
      refine bcase (fun h2 => ?_) (fun h2 => ?_)
      · have h2 := dt h2
        conv => whnf
        refine Calls.ret (done_calls M7.N) ?_
        rintro _ w8 ⟨rfl, hw8⟩
        conv => whnf
        subst hw8
        exact ⟨_, ⟨rfl, trivial⟩, rfl, fun q => ⟨by omega, by omega, by simpa using q⟩⟩
      · conv => whnf
        exact ⟨_, ⟨rfl, trivial⟩, rfl, fun q => by cases q⟩
    · conv => whnf
      exact ⟨_, ⟨rfl, trivial⟩, rfl, fun q => by cases q⟩
  rintro β w8 ⟨hw8, hβ⟩
  subst hw8
  conv => whnf
  refine vcCond_split lok rfl (fun h1 => ?_) (fun h1 => ?_)
  · -- one more of the noise
    have h1 := hβ h1
    obtain ⟨hin, hi79, hd⟩ := h1
    clear hβ
    conv => whnf
    have g8 := (hn8.ext x7).at (i : Int) (by omega) (by omega)
    obtain ⟨p8, o8, ha8, hc8⟩ := g8
    have gv : ∃ v, v = ns.getD (i : Int).toNat default := ⟨_, rfl⟩
    obtain ⟨v, hv⟩ := gv
    rw [← hv] at hc8
    clear hv
    have hvl := v.isLt
    refine ⟨p8, o8, ha8, ⟨by omega, by omega⟩, ?_⟩
    conv => whnf
    refine ⟨_, hc8, ?_⟩
    conv => whnf
    refine ⟨by decide, ?_⟩
    intro z hz
    have hz43 : z = ((v.toNat / 4 : Nat) : Int) := by rw [hz, show ((v.toNat : Nat) : Int).tdiv 4 = ((v.toNat / 4 : Nat) : Int) from quo_nat v.toNat 4]; exact wu8n (by omega)
    clear hz
    subst hz43
    conv => whnf
    intro z hz
    have hz44 : z = ((v.toNat / 4 : Nat) : Int) := by rw [hz]; exact wi64 (by omega)
    clear hz
    subst hz44
    conv => whnf
    have gk : ∃ k, k = v.toNat / 4 := ⟨_, rfl⟩
    obtain ⟨k, hk⟩ := gk
    rw [← hk]
    clear hk
    refine ⟨p8, o8, ha8, ⟨by omega, by omega⟩, ?_⟩
    conv => whnf
    refine ⟨_, hc8, ?_⟩
    conv => whnf
    refine ⟨by decide, ?_⟩
    intro z hz
    have hz47 : z = ((v.toNat % 4 : Nat) : Int) := by rw [hz]; exact rem_nat v.toNat 4
    clear hz
    subst hz47
    conv => whnf
    have gr : ∃ r, r = v.toNat % 4 := ⟨_, rfl⟩
    obtain ⟨r, hr⟩ := gr
    rw [← hr]
    clear hr
    refine vcCond_meet (fun x : St16 => [(18, .int .i64 i), (16, .slice x.aa x.air.length x.ac), (17, .slice x.ba x.back.length x.bc), (12, .pointer (some ⟨sb, 0, none⟩)), (14, .pointer (some ⟨b, 0, none⟩)), (8, .slice ra all.length rc), (2, .slice na ns.length nc)])
      (fun x w' => In16 w.heap.size Z w w' g gw fc sb b a c ra rc all (i + 1) x) ?_ ?_
    · refine vcCond_split lok rfl (fun h2 => ?_) (fun h2 => ?_)
      · -- a tick
        conv => whnf
        refine Calls.ret (tick_calls M7.N sd.1 sd.2.1) ?_
        rintro _ w9 ⟨xa, xc, rfl, hox, N9, g9⟩
        conv => whnf
        have M9 := M7.snd N9 g9
        have m9 : Mod (fun k => k = b) w8 w9 := Mod.ofGr g9 (fun k hk => (Option.some.inj hk).symm)
        have A9 := A7.keep m9 (fun k hk => by omega)
        have z9 := m9.size
        have x9 := m9.above x7 (fun k hk => by rw [hk]; exact M7.N.lo)
        have pl := k7.tick hal
        have g10 := A9.push (by omega) ⟨xa, (tickF ss).2, xc⟩ (hox.base (by omega)) (fun k hk => by
          have h1 : w8.heap.size ≤ k := (hox.ge k hk).1
          exact ⟨fun e => by have := (A7.o1.ge k e).2; omega, fun e => by have := (A7.o2.ge k e).2; omega⟩) (by omega)
        obtain ⟨a10, w10, aa', ac', w11, hr10, hr11, A11, m11⟩ := g10
        refine ⟨_, _, hr10, ?_⟩
        conv => whnf
        refine ⟨_, _, hr11, ?_⟩
        conv => whnf
        have z11 := m11.size
        refine ⟨⟨s, (tickF ss).1, aa', ac', air ++ [⟨xa, (tickF ss).2, xc⟩], ba, bc, back⟩, ⟨rfl, rfl, rfl, rfl, rfl, rfl, rfl, trivial⟩, M9.far m11 (fun k h1 h2 => by omega), A11, r7, pl.1, fun y hy => ?_, p2, sn.up (by omega), by show (air ++ [_]).length ≤ i + 1; rw [List.length_append]; show air.length + 1 ≤ i + 1; omega, by show back.length ≤ i + 1; omega, m11.above x9 (fun k hk => by have := M7.S.f.lo; omega), by omega⟩
        rcases List.mem_append.1 hy with q | q
        · exact p1 y q
        · rw [List.mem_singleton.1 q]; exact pl.2
      clear h2
      conv => whnf
      refine vcCond_meet (fun β : Bool => [(128, .bool β), (19, .int .i64 k), (18, .int .i64 i), (16, .slice aa air.length ac), (17, .slice ba back.length bc), (12, .pointer (some ⟨sb, 0, none⟩)), (14, .pointer (some ⟨b, 0, none⟩)), (8, .slice ra all.length rc), (2, .slice na ns.length nc)]) (fun _ w' => w' = w8) ?_ ?_
      · refine vcCond_split lok rfl (fun h3 => ?_) (fun h3 => ?_)
        · conv => whnf
          exact ⟨true, ⟨by rw [h3]; rfl, rfl, rfl, rfl, rfl, rfl, rfl, rfl, rfl, trivial⟩, rfl⟩
        · conv => whnf
          exact ⟨_, ⟨rfl, rfl, rfl, rfl, rfl, rfl, rfl, rfl, rfl, trivial⟩, rfl⟩
      rintro β w9 hw9
      subst hw9
      conv => whnf
      refine vcCond_split lok rfl (fun h3 => ?_) (fun h3 => ?_)
      · -- to the receiver
        conv => whnf
        refine vcCond_split lok rfl (fun h4 => ?_) (fun h4 => ?_)
        rotate_left
        · conv => whnf
          exact ⟨⟨s, ss, aa, ac, air, ba, bc, back⟩, ⟨rfl, rfl, rfl, rfl, rfl, rfl, rfl, trivial⟩, M7, A7, r7, k7, p1, p2, sn.up (by omega), by show air.length ≤ i + 1; omega, by show back.length ≤ i + 1; omega, x7, hz7⟩
        have h4 := dt h4
        conv => whnf
        refine ⟨by omega, ?_⟩
        intro z hz
        have hz63 : z = ((k % air.length : Nat) : Int) := by rw [hz]; exact rem_nat k air.length
        clear hz
        subst hz63
        conv => whnf
        have hix : k % air.length < air.length := Nat.mod_lt _ (by omega)
        have g5 := A7.o1.sl.at ((k % air.length : Nat) : Int) (by omega) (by omega)
        obtain ⟨p5, o5, ha5, hc5⟩ := g5
        have gx : ∃ x, x = air.getD ((k % air.length : Nat) : Int).toNat default ∧ x ∈ air := ⟨_, rfl, by
          rw [Int.toNat_natCast]
          simp only [List.getD, List.getElem?_eq_getElem hix, Option.getD_some]
          exact List.getElem_mem hix⟩
        obtain ⟨x, hx, hxm⟩ := gx
        rw [← hx] at hc5
        clear hx
        refine ⟨p5, o5, ha5, ⟨by omega, by omega⟩, ?_⟩
        conv => whnf
        refine ⟨.slice x.a x.l.length x.c, hc5, ?_⟩
        conv => whnf
        have hxo := A7.e1 x hxm
        have hxl := air_len (p1 x hxm)
        refine Calls.ret (rcv_calls M7.S 1 2#32 false hxo.sl (by omega) hxo.le.1 (by rw [sn.len]; exact sn) (by omega)) ?_
        rintro _ w10 ⟨ya, yc, rfl, hoy, S10, m10⟩
        conv => whnf
        have M10 := M7.rcv S10 m10
        have A10 := A7.keep m10 (fun k hk e => by rcases e with e | e <;> omega)
        have z10 := m10.size
        have x10 := FlMod.above m10 x7 M7.S.f.lo M7.S.f.lt.2.2
        have pl := rcv_any hal r7 (p1 x hxm)
        have n10 := rcv_num2 (n := 0) (slot := 1) (least := 2#32) (busy := false) (b := x.l) sn
        have gR : ∃ R, R = rcvF s 0 1 2#32 false x.l := ⟨_, rfl⟩
        obtain ⟨R, hR⟩ := gR
        rw [← hR] at hoy S10 M10 pl n10 ⊢
        clear hR
        obtain ⟨s1, r2, r3⟩ := R
        have hoy : Own 5 u8v w9.heap.size w10 ya yc r2 := hoy
        have M10 : M16 w.heap.size Z w10 g gw fc sb b a c ra rc all s1 ss := M10
        have pl : ROk all s1 ∧ On all s s1 ∧ BackOk all s1 r2 := pl
        have n10 : Num s1 1536 (34 * i + 34) := n10
        dsimp only
        conv => whnf
        have g11 := A10.swap.push (by omega) ⟨ya, r2, yc⟩ (hoy.base (by omega)) (fun k hk => by
          have h1 : w9.heap.size ≤ k := (hoy.ge k hk).1
          exact ⟨fun e => by have := (A7.o2.ge k e).2; omega, fun e => by have := (A7.o1.ge k e).2; omega⟩) (by omega)
        obtain ⟨a11, w11, ba', bc', w12, hr11, hr12, A12, m12⟩ := g11
        refine ⟨_, _, hr11, ?_⟩
        conv => whnf
        refine ⟨_, _, hr12, ?_⟩
        conv => whnf
        have z12 := m12.size
        refine ⟨⟨s1, ss, aa, ac, air, ba', bc', back ++ [⟨ya, r2, yc⟩]⟩, ⟨rfl, rfl, rfl, rfl, rfl, rfl, rfl, trivial⟩, M10.far m12 (fun k h1 h2 => by omega), A12.swap, pl.1, k7.on pl.2.1, p1, fun y hy => ?_, n10.up (by omega), by show air.length ≤ i + 1; omega, by show (back ++ [_]).length ≤ i + 1; rw [List.length_append]; show back.length + 1 ≤ i + 1; omega, m12.above x10 (fun k hk => by have := x7.size; have := M7.S.f.lo; omega), by omega⟩
        rcases List.mem_append.1 hy with q | q
        · exact (p2 y q).on pl.2.1
        · rw [List.mem_singleton.1 q]; exact pl.2.2
      · -- to the sender
        conv => whnf
        refine vcCond_split lok rfl (fun h4 => ?_) (fun h4 => ?_)
        rotate_left
        · conv => whnf
          exact ⟨⟨s, ss, aa, ac, air, ba, bc, back⟩, ⟨rfl, rfl, rfl, rfl, rfl, rfl, rfl, trivial⟩, M7, A7, r7, k7, p1, p2, sn.up (by omega), by show air.length ≤ i + 1; omega, by show back.length ≤ i + 1; omega, x7, hz7⟩
        have h4 := dt h4
        conv => whnf
        refine ⟨by omega, ?_⟩
        intro z hz
        have hz74 : z = ((k % back.length : Nat) : Int) := by rw [hz]; exact rem_nat k back.length
        clear hz
        subst hz74
        conv => whnf
        have hix : k % back.length < back.length := Nat.mod_lt _ (by omega)
        have g5 := A7.o2.sl.at ((k % back.length : Nat) : Int) (by omega) (by omega)
        obtain ⟨p5, o5, ha5, hc5⟩ := g5
        have gx : ∃ x, x = back.getD ((k % back.length : Nat) : Int).toNat default ∧ x ∈ back := ⟨_, rfl, by
          rw [Int.toNat_natCast]
          simp only [List.getD, List.getElem?_eq_getElem hix, Option.getD_some]
          exact List.getElem_mem hix⟩
        obtain ⟨x, hx, hxm⟩ := gx
        rw [← hx] at hc5
        clear hx
        refine ⟨p5, o5, ha5, ⟨by omega, by omega⟩, ?_⟩
        conv => whnf
        refine ⟨.slice x.a x.l.length x.c, hc5, ?_⟩
        conv => whnf
        have hxo := A7.e2 x hxm
        have hxl := back_len (p2 x hxm)
        refine Calls.ret (recv_calls M7.N sd.1 sd.2.2 hxo.sl (by omega) hxo.le.1) ?_
        rintro _ w10 ⟨ya, yc, rfl, hoy, N10, g10⟩
        conv => whnf
        have M10 := M7.snd N10 g10
        have m10 : Mod (fun k => k = b) w9 w10 := Mod.ofGr g10 (fun k hk => (Option.some.inj hk).symm)
        have A10 := A7.keep m10 (fun k hk => by omega)
        have z10 := m10.size
        have x10 := m10.above x7 (fun k hk => by rw [hk]; exact M7.N.lo)
        have pl := k7.recv hal (p2 x hxm)
        have g11 := A10.push (by omega) ⟨ya, (recvF ss x.l).2, yc⟩ (hoy.base (by omega)) (fun k hk => by
          have h1 : w9.heap.size ≤ k := (hoy.ge k hk).1
          exact ⟨fun e => by have := (A7.o1.ge k e).2; omega, fun e => by have := (A7.o2.ge k e).2; omega⟩) (by omega)
        obtain ⟨a11, w11, aa', ac', w12, hr11, hr12, A12, m12⟩ := g11
        refine ⟨_, _, hr11, ?_⟩
        conv => whnf
        refine ⟨_, _, hr12, ?_⟩
        conv => whnf
        have z12 := m12.size
        refine ⟨⟨s, (recvF ss x.l).1, aa', ac', air ++ [⟨ya, (recvF ss x.l).2, yc⟩], ba, bc, back⟩, ⟨rfl, rfl, rfl, rfl, rfl, rfl, rfl, trivial⟩, M10.far m12 (fun k h1 h2 => by omega), A12, r7, pl.1, fun y hy => ?_, p2, sn.up (by omega), by show (air ++ [_]).length ≤ i + 1; rw [List.length_append]; show air.length + 1 ≤ i + 1; omega, by show back.length ≤ i + 1; omega, m12.above x10 (fun k hk => by have := x7.size; have := M7.S.f.lo; omega), by omega⟩
        rcases List.mem_append.1 hy with q | q
        · exact p1 y q
        · rw [List.mem_singleton.1 q]; exact pl.2
    rintro st w9 I9
    conv => whnf
    refine ⟨by omega, ?_⟩
    conv => whnf
    exact ⟨(i + 1, st), ⟨rfl, rfl, rfl, rfl, rfl, rfl, rfl, trivial⟩, ⟨by omega, by omega, I9⟩, by show 80 - (i + 1) < 80 - i; omega⟩
  -- from then on all arrives
  clear hβ h1 A7 p1 p2 hl1 hl2
  have sn : Num s 1536 (2720 + 2720 * 0) := sn.up (by omega)
  clear hi hi80
  conv => whnf
  refine vcLoop_inv lok (σ := Nat × FS × SS)
    (fun ⟨i, _, _⟩ => [(22, .int .i64 i), (12, .pointer (some ⟨sb, 0, none⟩)), (14, .pointer (some ⟨b, 0, none⟩)), (8, .slice ra all.length rc)])
    (fun ⟨i, s, ss⟩ w' => i ≤ 5 ∧ M16 w.heap.size Z w' g gw fc sb b a c ra rc all s ss ∧ ROk all s ∧ SOk all s ss ∧ (ss.done = true ∨ (i : Int) + ss.wait ≤ 4) ∧ Num s 1536 (2720 + 2720 * i) ∧ Ext w w' ∧ Z ≤ w'.heap.size) (fun t => 5 - t.1)
    (0, s, ss) ⟨rfl, rfl, rfl, rfl, trivial⟩ ⟨Nat.zero_le _, M7, r7, k7, .inr (by have := k7.w1; show (0 : Int) + ss.wait ≤ 4; omega), sn, x7, hz7⟩ ?_
  clear M7 r7 k7 sn x7 hz7 sd hq
  rintro ⟨j, s, ss⟩ w9 ⟨hj, M9, r9, k9, hw9, sn, x9, hz9⟩
  have sd := sn_data k9 hal.2
  have hq := M9.q
  conv => whnf
  refine vcReg_meet lok (fun β : Bool => [(156, .bool β)]) (fun β w' => w' = w9 ∧ β = decide (j ≤ 4 ∧ ss.done = false)) [156] (fun _ => rfl) rfl ?_ ?_
  · conv => whnf
    refine bcase (fun h1 => ?_) (fun h1 => ?_)
    · have h1 := dt h1
      conv => whnf
      refine Calls.ret (done_calls M9.N) ?_
      rintro _ w10 ⟨rfl, hw10⟩
      conv => whnf
      subst hw10
      refine ⟨_, ⟨rfl, trivial⟩, rfl, ?_⟩
      cases hd : ss.done with
      | true => rw [decide_eq_false (fun q => by cases q.2)]; rfl
      | false => rw [decide_eq_true ⟨by omega, rfl⟩]; rfl
    · have h1 := df h1
      conv => whnf
      exact ⟨_, ⟨rfl, trivial⟩, rfl, by rw [decide_eq_false (by omega)]⟩
  rintro β w10 ⟨hw10, hβ⟩
  subst hw10
  conv => whnf
  refine vcCond_split lok rfl (fun h1 => ?_) (fun h1 => ?_)
  rotate_left
  · -- done
    rw [h1] at hβ
    have h1 := df hβ.symm
    have hd : ss.done = true := by
      cases hd : ss.done with
      | true => rfl
      | false =>
        have hw0 := k9.w0
        rcases hw9 with q | q
        · rw [hd] at q; cases q
        · exact absurd ⟨by omega, hd⟩ h1
    clear h1 hβ
    have hby := (k9.done hd).bytes
    conv => whnf
    refine Calls.ret (sbytes_calls M9.S 1) ?_
    rintro _ w11 ⟨a11, c11, rfl, ho11, x11⟩
    conv => whnf
    have M11 := M9.ext x11
    rw [hby] at ho11 ⊢
    have ho11 : Own 5 u8v w10.heap.size w11 a11 c11 all := ho11
    dsimp only
    conv => whnf
    refine vcReg_go lok ?_
    conv => whnf
    refine Calls.ret (done_calls M11.N) ?_
    rintro _ w12 ⟨rfl, hw12⟩
    conv => whnf
    subst hw12
    refine bcase (fun _ => ?_) (fun q => absurd q (by rw [hd]; simp))
    conv => whnf
    refine ⟨_, run_toStr ho11.sl, ?_⟩
    conv => whnf
    refine ⟨_, run_toStr M11.A.sl, ?_⟩
    conv => whnf
    intro γ hγ
    have hγ2 : γ = true := by rw [str_eq hγ rfl rfl]; simp
    clear hγ
    subst hγ2
    conv => whnf
    refine Calls.ret (known23) ?_
    rintro _ w13 ⟨rfl, x13⟩
    conv => whnf
    exact ⟨rfl, x9.trans (x11.trans x13)⟩
  rw [h1] at hβ
  have h1 := dt hβ.symm
  clear hβ
  have hd := h1.2
  have hjw : (j : Int) + ss.wait ≤ 4 := by
    rcases hw9 with q | q
    · rw [hd] at q; cases q
    · exact q
  have T9 := Talk.begin hal r9 k9 hd hjw
  conv => whnf
  refine Calls.ret (tick_calls M9.N sd.1 sd.2.1) ?_
  rintro _ w11 ⟨xa, xc, rfl, hox, N11, g11⟩
  conv => whnf
  have M11 := M9.snd N11 g11
  have m11 : Mod (fun k => k = b) w10 w11 := Mod.ofGr g11 (fun k hk => (Option.some.inj hk).symm)
  have z11 := m11.size
  have x11 := m11.above x9 (fun k hk => by rw [hk]; exact M9.N.lo)
  have gT : ∃ T, T = tickF ss := ⟨_, rfl⟩
  obtain ⟨T, hT⟩ := gT
  rw [← hT] at hox M11 T9 ⊢
  clear hT
  obtain ⟨ss1, xl⟩ := T
  have hox : Own 5 u8v Z w11 xa xc xl := hox.base hz9
  have M11 : M16 w.heap.size Z w11 g gw fc sb b a c ra rc all s ss1 := M11
  have T9 : Talk all j 0 s ss1 xl := T9
  have sn : Num s 1536 (2720 + 2720 * j + 34 * 0) := sn
  have hz11 : Z ≤ w11.heap.size := by omega
  clear M9 r9 k9 hw9 hd hjw m11 x9 sd
  conv => whnf
  refine vcLoop_inv lok (σ := Nat × FS × SS × Bs)
    (fun ⟨k, _, _, x⟩ => [(24, .int .i64 k), (23, .slice x.a x.l.length x.c), (22, .int .i64 j), (12, .pointer (some ⟨sb, 0, none⟩)), (14, .pointer (some ⟨b, 0, none⟩)), (8, .slice ra all.length rc)])
    (fun ⟨k, s, ss, x⟩ w' => k ≤ 80 ∧ M16 w.heap.size Z w' g gw fc sb b a c ra rc all s ss ∧ Talk all j k s ss x.l ∧ Own 5 u8v Z w' x.a x.c x.l ∧ x.l.length ≤ 3000 ∧ Num s 1536 (2720 + 2720 * j + 34 * k) ∧ Ext w w' ∧ Z ≤ w'.heap.size) (fun t => 80 - t.1)
    (0, s, ss1, ⟨xa, xl, xc⟩) ⟨rfl, rfl, rfl, rfl, rfl, rfl, trivial⟩ ⟨Nat.zero_le _, M11, T9, hox, talk_len T9, sn, x11, hz11⟩ ?_
  clear M11 T9 hox sn x11 hz11
  rintro ⟨k, s, ss, x⟩ w12 ⟨hk, M12, T12, hox, hxl, sn, x12, hz12⟩
  have k12 := T12.2.1
  have sd := sn_data k12 hal.2
  conv => whnf
  refine vcReg_meet lok (fun β : Bool => [(167, .bool β)]) (fun β w' => w' = w12 ∧ β = decide (k < 80 ∧ 0 < x.l.length)) [167] (fun _ => rfl) rfl ?_ ?_
  · conv => whnf
    refine bcase (fun h1 => ?_) (fun h1 => ?_)
    · have h1 := dt h1
      conv => whnf
      refine ⟨_, ⟨rfl, trivial⟩, rfl, ?_⟩
      rw [decide_eq_decide]; omega
    · have h1 := df h1
      conv => whnf
      exact ⟨_, ⟨rfl, trivial⟩, rfl, by rw [decide_eq_false (by omega)]⟩
  rintro β w13 ⟨hw13, hβ⟩
  subst hw13
  conv => whnf
  refine vcCond_split lok rfl (fun h2 => ?_) (fun h2 => ?_)
  rotate_left
  · rw [h2] at hβ
    have h2 := df hβ.symm
    have he := Talk.end_ hal T12 (by
      rcases Nat.lt_or_ge k 80 with q | q
      · left
        exact List.eq_nil_of_length_eq_zero (by omega)
      · exact .inr q)
    conv => whnf
    refine ⟨by omega, ?_⟩
    conv => whnf
    exact ⟨(j + 1, s, ss), ⟨rfl, rfl, rfl, rfl, trivial⟩, ⟨by omega, M12, T12.1, k12, by rcases he with q | q; exact .inl q; exact .inr (by show ((j + 1 : Nat) : Int) + ss.wait ≤ 4; omega), sn.up (by omega), x12, hz12⟩, by show 5 - (j + 1) < 5 - j; omega⟩
  rw [h2] at hβ
  have h2 := dt hβ.symm
  clear hβ
  have hne : x.l ≠ [] := fun e => by rw [e] at h2; exact absurd h2.2 (by decide)
  have T13 := Talk.next hal T12 hne
  conv => whnf
  refine Calls.ret (rcv_calls M12.S 1 2#32 false hox.sl (by omega) hox.le.1 (by rw [sn.len]; exact sn) (by omega)) ?_
  rintro _ w14 ⟨ya, yc, rfl, hoy, S14, m14⟩
  conv => whnf
  have M14 := M12.rcv S14 m14
  have z14 := m14.size
  have x14 := FlMod.above m14 x12 M12.S.f.lo M12.S.f.lt.2.2
  have n14 := rcv_num2 (n := 0) (slot := 1) (least := 2#32) (busy := false) (b := x.l) sn
  have hyl := rcv_len (s := s) (n := 0) (slot := 1) (least := 2#32) (busy := false) (b := x.l)
  have gR : ∃ R, R = rcvF s 0 1 2#32 false x.l := ⟨_, rfl⟩
  obtain ⟨R, hR⟩ := gR
  rw [← hR] at hoy M14 T13 n14 hyl ⊢
  clear hR S14
  obtain ⟨s1, r2, r3⟩ := R
  have hoy : Own 5 u8v w13.heap.size w14 ya yc r2 := hoy
  have M14 : M16 w.heap.size Z w14 g gw fc sb b a c ra rc all s1 ss := M14
  have n14 : Num s1 1536 (2720 + 2720 * j + 34 * k + 34) := n14
  have hyl : r2.length ≤ 3000 := hyl
  have T13 : r3 = 0 ∧ Talk all j (k + 1) s1 (recvF ss r2).1 (recvF ss r2).2 := T13
  obtain ⟨e3, T14⟩ := T13
  subst e3
  dsimp only
  conv => whnf
  refine vcCond_false lok (rfl) ?_
  conv => whnf
  refine Calls.ret (recv_calls M14.N sd.1 sd.2.2 hoy.sl (by omega) hoy.le.1) ?_
  rintro _ w15 ⟨xa', xc', rfl, hox', N15, g15⟩
  conv => whnf
  have M15 := M14.snd N15 g15
  have m15 : Mod (fun k => k = b) w14 w15 := Mod.ofGr g15 (fun k hk => (Option.some.inj hk).symm)
  have z15 := m15.size
  have x15 := m15.above x14 (fun k hk => by rw [hk]; exact M14.N.lo)
  refine ⟨by omega, ?_⟩
  conv => whnf
  exact ⟨(k + 1, s1, (recvF ss r2).1, ⟨xa', (recvF ss r2).2, xc'⟩), ⟨rfl, rfl, rfl, rfl, rfl, rfl, trivial⟩, ⟨by omega, M15, T14, hox'.base (by omega), talk_len T14, n14.up (by omega), x15, by omega⟩, by show 80 - (k + 1) < 80 - k; omega⟩
end Go.Proofs.Ytgipackjnncabaa

/- The closed facts of the whole program that each row asks, the head word read as a list of characters once. Printed by a program. -/
set_option linter.unusedVariables false
set_option maxRecDepth 100000
namespace Go.Proofs.Ytgipackjnncabaa.hd
open Go Go.RowKit
def codes : List Nat := [104, 97, 114, 110, 101, 115, 115, 32, 99, 102, 55, 97, 102, 50, 51, 49, 57, 56, 98, 49, 57, 51, 102, 100, 98, 52, 99, 55, 55, 51, 54, 53, 98, 100, 52, 54, 57, 57, 48, 97, 50, 50, 97, 50, 102, 56, 54, 56, 52, 56, 98, 55, 55, 56, 51, 48, 97, 102, 99, 99, 99, 48, 100, 48, 54, 98, 52, 55, 52, 56, 102, 50, 32, 99, 117, 116, 32, 97, 116, 32, 109, 105, 100, 115, 116, 114, 101, 97, 109, 47, 109, 105, 100, 115, 116, 114, 101, 97, 109, 108, 97, 119, 48, 50, 46, 79, 99, 116, 101, 116, 80, 117, 116, 115, 32, 109, 105, 100, 115, 116, 114, 101, 97, 109, 47, 109, 105, 100, 115, 116, 114, 101, 97, 109, 108, 97, 119, 48, 50, 46, 79, 99, 116, 101, 116, 71, 101, 116, 115, 32, 109, 105, 100, 115, 116, 114, 101, 97, 109, 47, 109, 105, 100, 115, 116, 114, 101, 97, 109, 108, 97, 119, 48, 50, 46, 79, 99, 116, 101, 116, 66, 97, 99, 107, 32, 109, 105, 100, 115, 116, 114, 101, 97, 109, 47, 109, 105, 100, 115, 116, 114, 101, 97, 109, 108, 97, 119, 48, 50, 46, 79, 99, 116, 101, 116, 87, 104, 111, 108, 101, 32, 109, 105, 100, 115, 116, 114, 101, 97, 109, 47, 109, 105, 100, 115, 116, 114, 101, 97, 109, 108, 97, 119, 48, 50, 46, 79, 99, 116, 101, 116, 87, 111, 114, 100, 115, 32, 109, 105, 100, 115, 116, 114, 101, 97, 109, 47, 109, 105, 100, 115, 116, 114, 101, 97, 109, 108, 97, 119, 48, 50, 46, 79, 99, 116, 101, 116, 82, 117, 110, 115, 32, 109, 105, 100, 115, 116, 114, 101, 97, 109, 47, 109, 105, 100, 115, 116, 114, 101, 97, 109, 108, 97, 119, 48, 50, 46, 79, 99, 116, 101, 116, 82, 111, 119, 32, 109, 105, 100, 115, 116, 114, 101, 97, 109, 47, 109, 105, 100, 115, 116, 114, 101, 97, 109, 108, 97, 119, 48, 51, 46, 67, 114, 99, 83, 117, 109, 115, 32, 109, 105, 100, 115, 116, 114, 101, 97, 109, 47, 109, 105, 100, 115, 116, 114, 101, 97, 109, 108, 97, 119, 48, 51, 46, 67, 114, 99, 83, 101, 97, 108, 115, 32, 109, 105, 100, 115, 116, 114, 101, 97, 109, 47, 109, 105, 100, 115, 116, 114, 101, 97, 109, 108, 97, 119, 50, 51, 46, 88, 102, 101, 114, 82, 101, 99, 101, 105, 118, 101, 115, 32, 109, 105, 100, 115, 116, 114, 101, 97, 109, 47, 109, 105, 100, 115, 116, 114, 101, 97, 109, 108, 97, 119, 48, 51, 46, 67, 114, 99, 66, 97, 99, 107, 32, 109, 105, 100, 115, 116, 114, 101, 97, 109, 47, 109, 105, 100, 115, 116, 114, 101, 97, 109, 108, 97, 119, 48, 51, 46, 67, 114, 99, 84, 117, 114, 110, 101, 100, 32, 109, 105, 100, 115, 116, 114, 101, 97, 109, 47, 109, 105, 100, 115, 116, 114, 101, 97, 109, 108, 97, 119, 48, 51, 46, 67, 114, 99, 76, 105, 110, 101, 97, 114, 32, 109, 105, 100, 115, 116, 114, 101, 97, 109, 47, 109, 105, 100, 115, 116, 114, 101, 97, 109, 108, 97, 119, 50, 51, 46, 88, 102, 101, 114, 65, 114, 114, 105, 118, 101, 115, 32, 109, 105, 100, 115, 116, 114, 101, 97, 109, 47, 109, 105, 100, 115, 116, 114, 101, 97, 109, 108, 97, 119, 48, 51, 46, 67, 114, 99, 83, 116, 97, 114, 116, 115, 32, 109, 105, 100, 115, 116, 114, 101, 97, 109, 47, 109, 105, 100, 115, 116, 114, 101, 97, 109, 108, 97, 119, 48, 54, 46, 70, 108, 97, 115, 104, 79, 102, 32, 109, 105, 100, 115, 116, 114, 101, 97, 109, 47, 109, 105, 100, 115, 116, 114, 101, 97, 109, 108, 97, 119, 48, 54, 46, 70, 108, 97, 115, 104, 67, 108, 101, 97, 114, 115, 32, 109, 105, 100, 115, 116, 114, 101, 97, 109, 47, 109, 105, 100, 115, 116, 114, 101, 97, 109, 108, 97, 119, 48, 54, 46, 70, 108, 97, 115, 104, 84, 111, 114, 110, 32, 109, 105, 100, 115, 116, 114, 101, 97, 109, 47, 109, 105, 100, 115, 116, 114, 101, 97, 109, 108, 97, 119, 48, 54, 46, 70, 108, 97, 115, 104, 80, 108, 97, 121, 115, 32, 109, 105, 100, 115, 116, 114, 101, 97, 109, 47, 109, 105, 100, 115, 116, 114, 101, 97, 109, 108, 97, 119, 48, 54, 46, 70, 108, 97, 115, 104, 78, 105, 108, 32, 109, 105, 100, 115, 116, 114, 101, 97, 109, 47, 109, 105, 100, 115, 116, 114, 101, 97, 109, 108, 97, 119, 48, 54, 46, 70, 108, 97, 115, 104, 65, 112, 97, 114, 116, 32, 109, 105, 100, 115, 116, 114, 101, 97, 109, 47, 109, 105, 100, 115, 116, 114, 101, 97, 109, 108, 97, 119, 50, 51, 46, 88, 102, 101, 114, 80, 97, 99, 107, 115, 32, 109, 105, 100, 115, 116, 114, 101, 97, 109, 47, 109, 105, 100, 115, 116, 114, 101, 97, 109, 108, 97, 119, 50, 51, 46, 88, 102, 101, 114, 66, 97, 99, 107, 32, 109, 105, 100, 115, 116, 114, 101, 97, 109, 47, 109, 105, 100, 115, 116, 114, 101, 97, 109, 108, 97, 119, 48, 55, 46, 74, 111, 117, 114, 110, 97, 108, 78, 105, 108, 32, 109, 105, 100, 115, 116, 114, 101, 97, 109, 47, 109, 105, 100, 115, 116, 114, 101, 97, 109, 108, 97, 119, 50, 51, 46, 88, 102, 101, 114, 83, 101, 110, 100, 101, 114, 115, 32, 109, 105, 100, 115, 116, 114, 101, 97, 109, 47, 109, 105, 100, 115, 116, 114, 101, 97, 109, 108, 97, 119, 48, 55, 46, 74, 111, 117, 114, 110, 97, 108, 82, 111, 111, 109, 32, 109, 105, 100, 115, 116, 114, 101, 97, 109, 47, 109, 105, 100, 115, 116, 114, 101, 97, 109, 108, 97, 119, 48, 55, 46, 74, 111, 117, 114, 110, 97, 108, 65, 110, 121, 32, 109, 105, 100, 115, 116, 114, 101, 97, 109, 47, 109, 105, 100, 115, 116, 114, 101, 97, 109, 108, 97, 119, 48, 55, 46, 74, 111, 117, 114, 110, 97, 108, 80, 108, 97, 121, 115, 32, 109, 105, 100, 115, 116, 114, 101, 97, 109, 47, 109, 105, 100, 115, 116, 114, 101, 97, 109, 108, 97, 119, 48, 55, 46, 74, 111, 117, 114, 110, 97, 108, 67, 114, 97, 115, 104, 101, 115, 32, 109, 105, 100, 115, 116, 114, 101, 97, 109, 47, 109, 105, 100, 115, 116, 114, 101, 97, 109, 108, 97, 119, 48, 55, 46, 74, 111, 117, 114, 110, 97, 108, 65, 112, 97, 114, 116, 32, 109, 105, 100, 115, 116, 114, 101, 97, 109, 47, 109, 105, 100, 115, 116, 114, 101, 97, 109, 108, 97, 119, 50, 50, 46, 83, 108, 111, 116, 115, 66, 97, 99, 107, 32, 109, 105, 100, 115, 116, 114, 101, 97, 109, 47, 109, 105, 100, 115, 116, 114, 101, 97, 109, 108, 97, 119, 50, 50, 46, 83, 108, 111, 116, 115, 78, 105, 108, 32, 109, 105, 100, 115, 116, 114, 101, 97, 109, 47, 109, 105, 100, 115, 116, 114, 101, 97, 109, 108, 97, 119, 50, 50, 46, 83, 108, 111, 116, 115, 67, 114, 97, 115, 104, 101, 115, 32, 109, 105, 100, 115, 116, 114, 101, 97, 109, 47, 109, 105, 100, 115, 116, 114, 101, 97, 109, 108, 97, 119, 50, 50, 46, 83, 108, 111, 116, 115, 66, 101, 103, 117, 110, 32, 109, 105, 100, 115, 116, 114, 101, 97, 109, 47, 109, 105, 100, 115, 116, 114, 101, 97, 109, 108, 97, 119, 50, 50, 46, 83, 108, 111, 116, 115, 80, 108, 97, 121, 115, 32, 109, 105, 100, 115, 116, 114, 101, 97, 109, 47, 109, 105, 100, 115, 116, 114, 101, 97, 109, 108, 97, 119, 50, 50, 46, 83, 108, 111, 116, 115, 65, 112, 97, 114, 116, 32, 109, 105, 100, 115, 116, 114, 101, 97, 109, 47, 109, 105, 100, 115, 116, 114, 101, 97, 109, 108, 97, 119, 50, 51, 46, 88, 102, 101, 114, 82, 101, 102, 117, 115, 101, 115]
theorem io : Try.prog.initOrder = String.ofList (codes.map Char.ofNat) := by kernel_rfl
theorem il : Try.prog.initOrder.toList = codes.map Char.ofNat := by rw [io]; exact String.toList_ofList
def restCodes : List (List Nat) := [[97, 116], [109, 105, 100, 115, 116, 114, 101, 97, 109, 47, 109, 105, 100, 115, 116, 114, 101, 97, 109, 108, 97, 119, 48, 50, 46, 79, 99, 116, 101, 116, 80, 117, 116, 115], [109, 105, 100, 115, 116, 114, 101, 97, 109, 47, 109, 105, 100, 115, 116, 114, 101, 97, 109, 108, 97, 119, 48, 50, 46, 79, 99, 116, 101, 116, 71, 101, 116, 115], [109, 105, 100, 115, 116, 114, 101, 97, 109, 47, 109, 105, 100, 115, 116, 114, 101, 97, 109, 108, 97, 119, 48, 50, 46, 79, 99, 116, 101, 116, 66, 97, 99, 107], [109, 105, 100, 115, 116, 114, 101, 97, 109, 47, 109, 105, 100, 115, 116, 114, 101, 97, 109, 108, 97, 119, 48, 50, 46, 79, 99, 116, 101, 116, 87, 104, 111, 108, 101], [109, 105, 100, 115, 116, 114, 101, 97, 109, 47, 109, 105, 100, 115, 116, 114, 101, 97, 109, 108, 97, 119, 48, 50, 46, 79, 99, 116, 101, 116, 87, 111, 114, 100, 115], [109, 105, 100, 115, 116, 114, 101, 97, 109, 47, 109, 105, 100, 115, 116, 114, 101, 97, 109, 108, 97, 119, 48, 50, 46, 79, 99, 116, 101, 116, 82, 117, 110, 115], [109, 105, 100, 115, 116, 114, 101, 97, 109, 47, 109, 105, 100, 115, 116, 114, 101, 97, 109, 108, 97, 119, 48, 50, 46, 79, 99, 116, 101, 116, 82, 111, 119], [109, 105, 100, 115, 116, 114, 101, 97, 109, 47, 109, 105, 100, 115, 116, 114, 101, 97, 109, 108, 97, 119, 48, 51, 46, 67, 114, 99, 83, 117, 109, 115], [109, 105, 100, 115, 116, 114, 101, 97, 109, 47, 109, 105, 100, 115, 116, 114, 101, 97, 109, 108, 97, 119, 48, 51, 46, 67, 114, 99, 83, 101, 97, 108, 115], [109, 105, 100, 115, 116, 114, 101, 97, 109, 47, 109, 105, 100, 115, 116, 114, 101, 97, 109, 108, 97, 119, 50, 51, 46, 88, 102, 101, 114, 82, 101, 99, 101, 105, 118, 101, 115], [109, 105, 100, 115, 116, 114, 101, 97, 109, 47, 109, 105, 100, 115, 116, 114, 101, 97, 109, 108, 97, 119, 48, 51, 46, 67, 114, 99, 66, 97, 99, 107], [109, 105, 100, 115, 116, 114, 101, 97, 109, 47, 109, 105, 100, 115, 116, 114, 101, 97, 109, 108, 97, 119, 48, 51, 46, 67, 114, 99, 84, 117, 114, 110, 101, 100], [109, 105, 100, 115, 116, 114, 101, 97, 109, 47, 109, 105, 100, 115, 116, 114, 101, 97, 109, 108, 97, 119, 48, 51, 46, 67, 114, 99, 76, 105, 110, 101, 97, 114], [109, 105, 100, 115, 116, 114, 101, 97, 109, 47, 109, 105, 100, 115, 116, 114, 101, 97, 109, 108, 97, 119, 50, 51, 46, 88, 102, 101, 114, 65, 114, 114, 105, 118, 101, 115], [109, 105, 100, 115, 116, 114, 101, 97, 109, 47, 109, 105, 100, 115, 116, 114, 101, 97, 109, 108, 97, 119, 48, 51, 46, 67, 114, 99, 83, 116, 97, 114, 116, 115], [109, 105, 100, 115, 116, 114, 101, 97, 109, 47, 109, 105, 100, 115, 116, 114, 101, 97, 109, 108, 97, 119, 48, 54, 46, 70, 108, 97, 115, 104, 79, 102], [109, 105, 100, 115, 116, 114, 101, 97, 109, 47, 109, 105, 100, 115, 116, 114, 101, 97, 109, 108, 97, 119, 48, 54, 46, 70, 108, 97, 115, 104, 67, 108, 101, 97, 114, 115], [109, 105, 100, 115, 116, 114, 101, 97, 109, 47, 109, 105, 100, 115, 116, 114, 101, 97, 109, 108, 97, 119, 48, 54, 46, 70, 108, 97, 115, 104, 84, 111, 114, 110], [109, 105, 100, 115, 116, 114, 101, 97, 109, 47, 109, 105, 100, 115, 116, 114, 101, 97, 109, 108, 97, 119, 48, 54, 46, 70, 108, 97, 115, 104, 80, 108, 97, 121, 115], [109, 105, 100, 115, 116, 114, 101, 97, 109, 47, 109, 105, 100, 115, 116, 114, 101, 97, 109, 108, 97, 119, 48, 54, 46, 70, 108, 97, 115, 104, 78, 105, 108], [109, 105, 100, 115, 116, 114, 101, 97, 109, 47, 109, 105, 100, 115, 116, 114, 101, 97, 109, 108, 97, 119, 48, 54, 46, 70, 108, 97, 115, 104, 65, 112, 97, 114, 116], [109, 105, 100, 115, 116, 114, 101, 97, 109, 47, 109, 105, 100, 115, 116, 114, 101, 97, 109, 108, 97, 119, 50, 51, 46, 88, 102, 101, 114, 80, 97, 99, 107, 115], [109, 105, 100, 115, 116, 114, 101, 97, 109, 47, 109, 105, 100, 115, 116, 114, 101, 97, 109, 108, 97, 119, 50, 51, 46, 88, 102, 101, 114, 66, 97, 99, 107], [109, 105, 100, 115, 116, 114, 101, 97, 109, 47, 109, 105, 100, 115, 116, 114, 101, 97, 109, 108, 97, 119, 48, 55, 46, 74, 111, 117, 114, 110, 97, 108, 78, 105, 108], [109, 105, 100, 115, 116, 114, 101, 97, 109, 47, 109, 105, 100, 115, 116, 114, 101, 97, 109, 108, 97, 119, 50, 51, 46, 88, 102, 101, 114, 83, 101, 110, 100, 101, 114, 115], [109, 105, 100, 115, 116, 114, 101, 97, 109, 47, 109, 105, 100, 115, 116, 114, 101, 97, 109, 108, 97, 119, 48, 55, 46, 74, 111, 117, 114, 110, 97, 108, 82, 111, 111, 109], [109, 105, 100, 115, 116, 114, 101, 97, 109, 47, 109, 105, 100, 115, 116, 114, 101, 97, 109, 108, 97, 119, 48, 55, 46, 74, 111, 117, 114, 110, 97, 108, 65, 110, 121], [109, 105, 100, 115, 116, 114, 101, 97, 109, 47, 109, 105, 100, 115, 116, 114, 101, 97, 109, 108, 97, 119, 48, 55, 46, 74, 111, 117, 114, 110, 97, 108, 80, 108, 97, 121, 115], [109, 105, 100, 115, 116, 114, 101, 97, 109, 47, 109, 105, 100, 115, 116, 114, 101, 97, 109, 108, 97, 119, 48, 55, 46, 74, 111, 117, 114, 110, 97, 108, 67, 114, 97, 115, 104, 101, 115], [109, 105, 100, 115, 116, 114, 101, 97, 109, 47, 109, 105, 100, 115, 116, 114, 101, 97, 109, 108, 97, 119, 48, 55, 46, 74, 111, 117, 114, 110, 97, 108, 65, 112, 97, 114, 116], [109, 105, 100, 115, 116, 114, 101, 97, 109, 47, 109, 105, 100, 115, 116, 114, 101, 97, 109, 108, 97, 119, 50, 50, 46, 83, 108, 111, 116, 115, 66, 97, 99, 107], [109, 105, 100, 115, 116, 114, 101, 97, 109, 47, 109, 105, 100, 115, 116, 114, 101, 97, 109, 108, 97, 119, 50, 50, 46, 83, 108, 111, 116, 115, 78, 105, 108], [109, 105, 100, 115, 116, 114, 101, 97, 109, 47, 109, 105, 100, 115, 116, 114, 101, 97, 109, 108, 97, 119, 50, 50, 46, 83, 108, 111, 116, 115, 67, 114, 97, 115, 104, 101, 115], [109, 105, 100, 115, 116, 114, 101, 97, 109, 47, 109, 105, 100, 115, 116, 114, 101, 97, 109, 108, 97, 119, 50, 50, 46, 83, 108, 111, 116, 115, 66, 101, 103, 117, 110], [109, 105, 100, 115, 116, 114, 101, 97, 109, 47, 109, 105, 100, 115, 116, 114, 101, 97, 109, 108, 97, 119, 50, 50, 46, 83, 108, 111, 116, 115, 80, 108, 97, 121, 115], [109, 105, 100, 115, 116, 114, 101, 97, 109, 47, 109, 105, 100, 115, 116, 114, 101, 97, 109, 108, 97, 119, 50, 50, 46, 83, 108, 111, 116, 115, 65, 112, 97, 114, 116], [109, 105, 100, 115, 116, 114, 101, 97, 109, 47, 109, 105, 100, 115, 116, 114, 101, 97, 109, 108, 97, 119, 50, 51, 46, 88, 102, 101, 114, 82, 101, 102, 117, 115, 101, 115]]
def restW : List (List Char) := restCodes.map (·.map Char.ofNat)
theorem words0 : behindMainWord (wordsSigns (codes.map Char.ofNat)) = [Char.ofNat 99, Char.ofNat 117, Char.ofNat 116] :: restW := by kernel_rfl
theorem words : behindMainWord (wordsSigns Try.prog.initOrder.toList) = [Char.ofNat 99, Char.ofNat 117, Char.ofNat 116] :: restW := by rw [il]; exact words0
def mkMake (l : List (List Char)) (hl : List String) : Option Make := match l with
  | c :: rest => if c == "gc".toList || c == "spec".toList then some .whole else if c == "cut".toList || (c == "finals".toList && rest.head? == some "cut".toList) then some .cut else if c == "carried".toList then some .carried else if hl.isEmpty then none else some (.lifted hl)
  | [] => none
theorem make_eq (P : Program) : P.make = mkMake (behindMainWord (wordsSigns P.initOrder.toList)) P.headLifts := rfl
def mkEnter (l : List (List Char)) (lays bears : Bool) (fits : List String → Bool) : Bool := match l with
  | c :: rest =>
    ((c == "gc".toList || c == "spec".toList) && (rest.isEmpty || rest.head? == some "stop".toList)) ||
    (c == "carried".toList && rest.take 2 == ["gc".toList, "cut".toList] && !lays && !bears) ||
    ((stripLifts liftWords (c :: rest)).2.head? == some "cut".toList &&
      ((stripLifts liftWords (c :: rest)).1.contains "finals" || !lays) && ((stripLifts liftWords (c :: rest)).1.contains "reflectrows" || !bears) &&
      ((stripLifts liftWords (c :: rest)).1.contains "reflectrows" || !(stripLifts liftWords (c :: rest)).1.contains "leanrows") &&
      fits (stripLifts liftWords (c :: rest)).1)
  | [] => false
theorem enter_eq (P : Program) : P.mayEnter = mkEnter (behindMainWord (wordsSigns P.initOrder.toList)) P.laysLater P.bearsReflect P.doorFits := rfl
theorem laysLater : Try.prog.laysLater = false := by kernel_rfl
theorem bearsReflect : Try.prog.bearsReflect = false := by kernel_rfl
theorem mayEnter : Try.prog.mayEnter = true := by
  rw [enter_eq, words, laysLater, bearsReflect]
  kernel_rfl
theorem headLifts : Try.prog.headLifts = [] := by
  unfold Program.headLifts
  rw [words]
  kernel_rfl
theorem liftsFinal : Try.prog.liftsFinal = false := by
  unfold Program.liftsFinal
  rw [words, headLifts]
  kernel_rfl
theorem make : Try.prog.make = some .cut := by
  rw [make_eq, words, headLifts]
  kernel_rfl
theorem laidOut : laidOutB Try.prog = true := by kernel_rfl
theorem mapsRowed : mapsRowed Try.prog = true := by kernel_rfl
theorem stopsHeard : Try.prog.stopsHeard = true := by kernel_rfl
theorem own : ownKnob Try.prog.godebug = none := by kernel_rfl
theorem plainKeys : Try.prog.plainKeys = true := by kernel_rfl

theorem stops0 : (Try.prog.stops == []) = true := by kernel_rfl
theorem stopKnobs0 : (Try.prog.stopKnobs == []) = true := by kernel_rfl
/-- the closed facts of a row, those of the program given -/
theorem joined {f : FuncId} {fn : Func} {s : ChangeSpec} {c : OpenClaim} (h : (  c.wf (OpenSpec.ofChange s) &&
  fn.params.all (Try.prog.readableRec ·) && namedTie Try.prog c.named s.vars &&
  (c.stops == []) && (c.knobs == []) &&
  (c.inPlace == Try.prog.inPlace f) && (c.unfollowed == Try.prog.unfollowed f) && (c.recurses == Try.prog.recurses f) && (c.named == Try.prog.varsNamed f) &&
  (c.maps == (fn.params.toList ++ s.plain.varTypes Try.prog).any (Try.prog.mapsRec ·)) && (c.ifaces == (fn.params.toList ++ s.plain.varTypes Try.prog).any (Try.prog.ifacesRec ·)) && (c.mapsOut == Try.prog.mapsAmong fn.resultTypes.toList) &&
  (c.loops == (fn.params.toList ++ s.plain.varTypes Try.prog).any (Try.prog.loopsFrom ·)) && (c.wideKeys == (fn.params.toList ++ s.plain.varTypes Try.prog ++ fn.resultTypes.toList).any (Try.prog.wideKeysFrom ·)) &&
  s.vars.all (Try.prog.varReadable ·) && fn.resultTypes.all (fun t => Try.prog.readableRec t && decide (t < Try.prog.types.size)) && (c.ifacesOut == fn.resultTypes.toList.any (Try.prog.ifacesRec ·)) && (c.loopsOut == fn.resultTypes.toList.any (Try.prog.loopsFrom ·)) && c.plainKeys && c.shortTexts.isNone && (c.lifted == false) && (some Make.cut == some c.make) && (c.kinds == (if c.domain.isEmpty then [] else fn.params.toList.map fun t => match Try.prog.underlying t with | some (.int k) => some k | _ => none)) && (c.pinned == c.pinnedBy) &&
  (c.veiled == (fn.params.toList ++ s.plain.varTypes Try.prog ++ fn.resultTypes.toList).any (Try.prog.veiledRec ·)) && c.veiledFits Try.prog fn.params.toList (fn.params.toList ++ s.plain.varTypes Try.prog ++ fn.resultTypes.toList)) = true) : joinedFacts Try.prog f fn s c = true := by
  unfold joinedFacts
  simp only [Bool.and_eq_true] at h ⊢
  obtain ⟨⟨⟨⟨⟨⟨⟨⟨⟨⟨⟨⟨⟨⟨⟨⟨⟨⟨⟨⟨⟨⟨⟨⟨⟨m0, m1⟩, m2⟩, m3⟩, m4⟩, m5⟩, m6⟩, m7⟩, m8⟩, m9⟩, m10⟩, m11⟩, m12⟩, m13⟩, m14⟩, m15⟩, m16⟩, m17⟩, m18⟩, m19⟩, m20⟩, m21⟩, m22⟩, m23⟩, m24⟩, m25⟩ := h
  exact ⟨⟨⟨⟨⟨⟨⟨⟨⟨⟨⟨⟨⟨⟨⟨⟨⟨⟨⟨⟨⟨⟨⟨⟨⟨⟨⟨⟨⟨⟨⟨m0, laidOut⟩, mapsRowed⟩, m1⟩, m2⟩, m3⟩, stops0⟩, m4⟩, stopKnobs0⟩, m5⟩, m6⟩, m7⟩, m8⟩, m9⟩, m10⟩, m11⟩, m12⟩, m13⟩, m14⟩, m15⟩, m16⟩, m17⟩, (by rw [plainKeys, m18]; rfl)⟩, m19⟩, stopsHeard⟩, mayEnter⟩, (by rw [liftsFinal]; exact m20)⟩, (by rw [make]; exact m21)⟩, m22⟩, m23⟩, m24⟩, m25⟩
end Go.Proofs.Ytgipackjnncabaa.hd
