/- Own texts of this claim, joined: L22e, L23c, Hd. -/
import Derived.Test.YtgipackjnncabaaK39j
import Derived.Test.YtgipackjnncabaaRows
import Derived.ProofKit

/- The law SlotsBegun, walked. -/
set_option linter.unusedVariables false
namespace Go.Proofs.Ytgipackjnncabaa
open Go.Vc Go.RowKit

theorem u32_any {z a : Int} (h : z = IntKind.u32.wrap a) : ∃ y : BitVec 32, z = (y.toNat : Int) := ⟨BitVec.ofInt 32 z, by rw [h, wu32, BitVec.toNat_ofInt]; omega⟩
theorem run_word (w : World) (x : BitVec 32) : ∃ w', (Instr.buildSlice 37 1 #[(0, u32v x)]).run Try.prog w = .ok (.slice (some ⟨w.heap.size, 0, none⟩) 1 1) w' ∧ Own 42 u32v w.heap.size w' (some ⟨w.heap.size, 0, none⟩) 1 [x] ∧ Ext w w' := by
  have g := run_buildN (P := Try.prog) (t := 37) (e := 42) e32.toElem [u32v x] (by simp [u32v, Value.oneCell']) (by simp) w
  exact ⟨_, g, own_lit (w := w) [x] (by simp), Ext.new _ _⟩
/-- what Head tells of words -/
def headV (ws : List (BitVec 32)) (p : Nat) : BitVec 32 × Nat × Bool := match headW ws p with
  | none => (0#32, 0, false)
  | some (v, m) => (v, m, true)
theorem headR_on {s : FS} {n : Nat} {slot : Int} (h : s.off = false) (hb : ¬ badF slot) : headR s n slot = headV s.ws (atF n slot) := headR_ok (check_ok h hb)
theorem haveF_on {s : FS} {n : Nat} {slot : Int} (h : s.off = false) (hb : ¬ badF slot) : haveF s n slot = haveW s.ws (atF n slot) := by unfold haveF; rw [if_neg (by rw [h]; simp [hb])]

theorem drop_ok {s : FS} {n : Nat} {slot : Int} (hs : s.off = false) (hb : ¬ badF slot) (hl : s.left ≠ 0) (hn : atF n slot + 768 ≤ s.ws.length) : ∃ t, dropSF s n slot = (t, 0) ∧ t.off = false ∧ headW t.ws (atF n slot) = none := by
  have hp : atF n slot = 256 * (n + 3 * slot.toNat) := by unfold atF; omega
  have e : dropSF s n slot = (s.did (fillF s.ws (256 * (n + 3 * slot.toNat)) 256), 0) := by
    unfold dropSF eraseF
    rw [check_ok hs hb, if_neg (by simp), hs, if_neg (by simp), if_neg (by omega), if_neg hl, Int.toNat_natCast]
  refine ⟨_, e, (did_off _ _).trans hs, headW_none (.inl ?_)⟩
  rw [did_ws, hp, fill_get0, if_pos (by omega)]

set_option maxRecDepth 100000 in
set_option maxHeartbeats 8000000 in
theorem slotsBegun_walk {w : World} {la : Option Addr} {lc : Nat} {l : List (BitVec 32)} (hl32 : Sl u32v w la l) (hll : l.length ≤ 9223372036854775807) (c0 c1 c2 : BitVec 32) (sz : Nat) (hsz : sz ≤ 65535) :
    Calls Try.prog 36 #[.slice la l.length lc, .agg #[.int .u32 c0.toNat, .int .u32 c1.toNat, .int .u32 c2.toNat], .int .u16 sz] w (Law w) := by
  refine calls_of_vc lok Try.func36 ?_ rfl
  conv => whnf
  intro w1 hw1
  have hc1 : Blk w1 w.heap.size 99 [u32v c0, u32v c1, u32v c2] ∨ Blk w1 w.heap.size 166 [u32v c0, u32v c1, u32v c2] := by right; rw [hw1]; exact Blk.new w 166 _
  replace hc1 : Blk w1 w.heap.size 166 [u32v c0, u32v c1, u32v c2] := by rw [hw1]; exact Blk.new w 166 _
  have x1 : Ext w w1 := by rw [hw1]; exact Ext.new _ _
  clear hw1
  have hclt := hc1.lt
  have gcb : ∃ cb, cb = w.heap.size := ⟨_, rfl⟩
  obtain ⟨cb, hcb⟩ := gcb
  rw [← hcb] at hc1 hclt ⊢
  conv => whnf
  refine vcLoop_inv lok (σ := Nat × Option Addr × Nat × List (BitVec 32))
    (fun ⟨i, ra, rc, ws⟩ => [(8, .int .i64 i), (7, .slice ra ws.length rc), (0, .slice la l.length lc), (4, .pointer (some ⟨cb, 0, none⟩)), (2, .int .u16 sz)])
    (fun ⟨i, ra, rc, ws⟩ w' => i ≤ 1536 ∧ ws.length = i ∧ Own 42 u32v w1.heap.size w' ra rc ws ∧ Ext w1 w') (fun t => 1536 - t.1)
    (0, none, 0, []) ⟨rfl, rfl, rfl, rfl, rfl, trivial⟩ ⟨Nat.zero_le _, rfl, Own.nil _ _ _ _, Ext.refl _⟩ ?_
  rintro ⟨i, ra, rc, ws⟩ w2 ⟨hi, hwl, ho2, x2⟩
  conv => whnf
  refine vcCond_split lok rfl (fun h2 => ?_) (fun h2 => ?_)
  · have h2 := dt h2
    conv => whnf
    intro z hz
    clear hz
    conv => whnf
    intro z2 hz2
    have gy := u32_any hz2
    obtain ⟨y0, hy0⟩ := gy
    clear hz2
    subst hy0
    conv => whnf
    refine vcCond_meet (fun y : BitVec 32 => [(9, .int .u32 y.toNat), (8, .int .i64 i), (7, .slice ra ws.length rc), (0, .slice la l.length lc), (4, .pointer (some ⟨cb, 0, none⟩)), (2, .int .u16 sz)]) (fun y w' => w' = w2) ?_ ?_
    · refine vcCond_split lok rfl (fun h3 => ?_) (fun h3 => ?_)
      · have h3 := dt h3
        conv => whnf
        refine ⟨by omega, ?_⟩
        intro z hz
        have hz10 : z = ((i % l.length : Nat) : Int) := by rw [hz]; exact rem_nat i l.length
        clear hz
        subst hz10
        conv => whnf
        have hix : i % l.length < l.length := Nat.mod_lt _ (by omega)
        have g11 := sl_get ((hl32.ext (x1.trans x2))) (((i % l.length : Nat) : Int)) (i % l.length) (by omega) (by omega)
        obtain ⟨p11, o11, ha11, hb11, hcell11⟩ := g11
        refine ⟨p11, o11, ha11, hb11, ?_⟩
        conv => whnf
        refine ⟨_, hcell11, ?_⟩
        conv => whnf
        exact ⟨_, ⟨rfl, rfl, rfl, rfl, rfl, rfl, trivial⟩, rfl⟩
      · conv => whnf
        exact ⟨y0, ⟨rfl, rfl, rfl, rfl, rfl, rfl, trivial⟩, rfl⟩
    rintro y w3 hw3
    subst hw3
    conv => whnf
    have g6 := run_word w3 y
    obtain ⟨w6, hr6, ho6, x6⟩ := g6
    refine ⟨_, _, hr6, ?_⟩
    conv => whnf
    have z6 := x6.size
    have z2 := x2.size
    have g7 := run_app (ty := 37) (d := 1) (ho2.ext x6) ho6.sl (by simp; omega) (by omega)
    obtain ⟨a7, c7, w7, hr7, ho7, hg7⟩ := g7
    refine ⟨_, _, hr7, ?_⟩
    have x7 : Ext w1 w7 := hg7.extOf (x2.trans x6) (fun g hg => (ho2.ge g hg).1)
    have el : (ws ++ [y]).length = i + 1 := by rw [List.length_append, hwl]; rfl
    have gy : ∃ ys, ys = ws ++ [y] := ⟨_, rfl⟩
    obtain ⟨ys, hys⟩ := gy
    rw [← hys] at ho7 el ⊢
    conv => whnf
    refine ⟨by omega, ?_⟩
    conv => whnf
    exact ⟨(i + 1, a7, c7, ys), ⟨rfl, rfl, rfl, rfl, rfl, trivial⟩, ⟨by omega, el, ho7, x7⟩, by show 1536 - (i + 1) < 1536 - i; omega⟩
  have h2 := df h2
  conv => whnf
  have hw1536 : ws.length = 1536 := by omega
  clear h2 hi hwl
  intro z hz
  have hz18 : z = (sz : Int) := by rw [hz]; exact wi64 (by omega)
  clear hz
  subst hz18
  conv => whnf
  refine ⟨by decide, ?_⟩
  intro z hz
  have hz19 : z = ((sz % 2048 : Nat) : Int) := by rw [hz]; exact rem_nat sz 2048
  clear hz
  subst hz19
  conv => whnf
  refine ⟨by omega, ?_⟩
  conv => whnf
  have gn : ∃ n : Nat, n = 1 + sz % 2048 ∧ 1 ≤ n ∧ n ≤ 2048 := ⟨_, rfl, by omega, by omega⟩
  obtain ⟨n, hn, hn1, hn2⟩ := gn
  rw [show (1 : Int) + ((sz % 2048 : Nat) : Int) = (n : Int) by omega]
  conv => whnf
  refine Calls.ret (of_big ho2.sl (by omega)) ?_
  rintro _ w3 hp
  conv => whnf
  rcases hp with ⟨_, g, gw, fc, rfl, f3, x3⟩ | ⟨hno, _⟩
  rotate_left
  · rw [hw1536] at hno; exact absurd hno (by decide)
  have so0 : (newFS ws).off = false := rfl
  have sn0 : Num (newFS ws) 1536 0 := ⟨hw1536, ⟨Int.le_refl _, Int.le_refl _⟩, by show (-1 : Int) ≤ _; decide⟩
  have gs0 : ∃ s0, s0 = newFS ws := ⟨_, rfl⟩
  obtain ⟨s0, hs0⟩ := gs0
  rw [← hs0] at f3 so0 sn0
  clear hs0
  have l0 := sn0.len
  have f3lo := f3.lo
  have f3lt := f3.lt
  have z1 := x1.size
  have z2 := x2.size
  have x03 := x1.trans (x2.trans x3)
  have hc3 := (hc1.ext x2).ext x3
  conv => whnf
  refine Calls.ret (sopen_calls f3 (by omega) 0) ?_
  rintro _ w4 hp
  conv => whnf
  rcases hp with ⟨hno, _, _⟩ | ⟨m, hm, _, sb, rfl, hsb, S4, x4⟩
  · exact absurd ⟨by decide, by rw [l0]; decide⟩ hno
  have hm0 : m = 0 := by omega
  subst hm0
  clear hm
  have hbad : ¬ badF 0 := by decide
  have hat : atF 0 0 = 0 := rfl
  have S4' : SlAt w.heap.size w4 sb g gw fc 0 s0 := ⟨S4.f.base (by omega), S4.b, S4.n1, S4.n2, S4.room, S4.small⟩
  clear S4
  conv => whnf
  refine vcReg_go lok ?_
  conv => whnf
  refine vcCond_false lok (rfl) ?_
  conv => whnf
  refine Calls.ret (shead_calls S4' 0) ?_
  rintro _ w5 ⟨rfl, x5⟩
  conv => whnf
  rw [headR_on so0 hbad]
  have gH0 : ∃ H, H = headV s0.ws (atF 0 0) := ⟨_, rfl⟩
  obtain ⟨H0, hH0⟩ := gH0
  rw [← hH0]
  have S5 := S4'.ext x5
  have hc5 := (hc3.ext x4).ext x5
  have x05 := x03.trans (x4.trans x5)
  have hc0lt := c0.isLt
  refine ⟨by decide, ?_⟩
  conv => whnf
  refine ⟨_, hc5.cell (i := 0) rfl, ?_⟩
  conv => whnf
  refine ⟨by decide, ?_⟩
  have gk8 : ∃ k8 : Nat, k8 = c0.toNat % 8 ∧ k8 < 8 := ⟨_, rfl, by omega⟩
  obtain ⟨k8, hk8, hk88⟩ := gk8
  intro z hz
  have hz31 : z = (k8 : Int) := by rw [hz, hk8]; exact rem_nat _ 8
  clear hz
  subst hz31
  conv => whnf
  intro z hz
  have hz32 : z = (k8 : Int) := by rw [hz]; exact wi64 (by omega)
  clear hz
  subst hz32
  conv => whnf
  refine ⟨by decide, ?_⟩
  conv => whnf
  have hcell1 : w5.cell? ⟨cb, 0 + (1 : Int).toNat * 1, none⟩ = some (u32v c1) := by rw [show 0 + (1 : Int).toNat * 1 = 0 + 1 from rfl]; exact hc5.cell (i := 1) rfl
  refine ⟨u32v c1, hcell1, ?_⟩
  conv => unfold vcPut; dsimp only
  rw [show Nat.blt 76 Try.f36.ntmps = true from rfl]
  conv => unfold vcOps; dsimp only
  conv => unfold vcOp; dsimp only [ev, evs]
  conv => whnf
  have g8 := cut_calls S5.f (k8 : Int) c1
  have sn8 := sn0.cut (k8 : Int) (by omega) c1
  rw [cut_pos s0 _ (by omega) c1] at g8 sn8
  have gs1 : ∃ s1 : FS, s1 = { s0 with left := (k8 : Int), mask := c1 } := ⟨_, rfl⟩
  obtain ⟨s1, hs1⟩ := gs1
  have sw1 : s1.ws = s0.ws := by rw [hs1]
  have so1 : s1.off = false := by rw [hs1]; exact so0
  rw [← hs1] at g8 sn8
  clear hs1
  replace sn8 : Num s1 1536 1 := sn8
  refine Calls.ret (g8) ?_
  rintro _ w8 ⟨rfl, f8, m8⟩
  conv => whnf
  have S8 : SlAt w.heap.size w8 sb g gw fc 0 s1 := S5.next f8 m8 (by rw [sw1])
  have x08 := FlMod.above m8 x05 (by omega) (by omega)
  have ncb : ¬ (cb = g ∨ cb = gw) := fun e => by rcases e with e | e <;> omega
  have hc8 := m8.keepBlk hc5 ncb
  have hcell2 : w8.cell? ⟨cb, 0 + (2 : Int).toNat * 1, none⟩ = some (u32v c2) := by rw [show 0 + (2 : Int).toNat * 1 = 0 + 2 from rfl]; exact hc8.cell (i := 2) rfl
  refine ⟨by decide, ?_⟩
  conv => whnf
  refine ⟨u32v c2, hcell2, ?_⟩
  conv => whnf
  have hc2lt := c2.isLt
  refine ⟨by decide, ?_⟩
  intro z hz
  have hz38 : z = ((c2.toNat % 1000 : Nat) : Int) := by rw [hz]; exact rem_nat _ 1000
  clear hz
  subst hz38
  conv => whnf
  have gv : ∃ v : BitVec 32, v = BitVec.ofNat 32 (1 + c2.toNat % 1000) := ⟨_, rfl⟩
  obtain ⟨v, hv⟩ := gv
  have hvn : v.toNat = 1 + c2.toNat % 1000 := by rw [hv, BitVec.toNat_ofNat]; omega
  clear hv
  intro z hz
  have hz39 : z = (v.toNat : Int) := by rw [hz, wu32]; omega
  clear hz
  subst hz39
  conv => whnf
  have hcan : canN v (n : Int) := ⟨fun e => by rw [e] at hvn; simp at hvn; omega, fun e => by rw [e] at hvn; have : ones.toNat = 4294967295 := rfl; omega, by omega, by omega⟩
  have gb := begin_cases (n := 0) (slot := 0) (v := v) (m := n) so1 hbad hcan (by rw [hat, sn8.len]; decide)
  have tn := begin_num (at_ := 0) (slot := 0) (v := v) (m := n) sn8
  have gbeg := sbegin_calls S8 0 v n (by rw [sn8.len]; exact sn8) (by decide)
  rw [Int.toNat_natCast, sw1] at gb
  have hres : ∃ t e, beginSF s1 0 0 v n = (t, e) ∧ ((e = 0 ∧ Fresh t.ws (atF 0 0) v n) ∨ (e = 7 ∧ (Fresh t.ws (atF 0 0) v n ∨ t.ws = s0.ws ∨ headW t.ws (atF 0 0) = none))) := by
    rcases gb with ⟨t, q1, q2, _, _⟩ | ⟨t, q1, _, _, q4⟩
    · exact ⟨t, 0, q1, .inl ⟨rfl, q2⟩⟩
    · exact ⟨t, 7, q1, .inr ⟨rfl, q4⟩⟩
  obtain ⟨t, e, q1, q2⟩ := hres
  rw [q1] at tn gbeg
  clear gb
  replace tn : Num t 1536 18 := tn
  refine Calls.ret (gbeg) ?_
  rintro _ w9 ⟨rfl, S9, m9⟩
  conv => whnf
  replace S9 : SlAt w.heap.size w9 sb g gw fc 0 t := S9
  have x09 := FlMod.above m9 x08 (by omega) (by omega)
  have hc9 := m9.keepBlk hc8 ncb
  refine Calls.ret (start_calls S9.f) ?_
  rintro _ w10 ⟨rfl, f10, m10⟩
  conv => whnf
  have S10 : SlAt w.heap.size w10 sb g gw fc 0 (startF t) := S9.next f10 m10 rfl
  have x010 := FlMod.above m10 x09 (by omega) (by omega)
  have hc10 := m10.keepBlk hc9 ncb
  have sn10 := tn.start
  have so10 : (startF t).off = false := rfl
  have sw10 : (startF t).ws = t.ws := rfl
  have gs3 : ∃ s3, s3 = startF t := ⟨_, rfl⟩
  obtain ⟨s3, hs3⟩ := gs3
  rw [← hs3] at S10 sn10 so10 sw10
  clear hs3 f10
  rw [← sw10] at q2
  refine Calls.ret (shead_calls S10 0) ?_
  rintro _ w11 ⟨rfl, x11⟩
  conv => whnf
  rw [headR_on so10 hbad]
  refine Calls.ret (shave_calls (S10.ext x11) 0) ?_
  rintro _ w12 ⟨rfl, x12⟩
  conv => whnf
  rw [haveF_on so10 hbad]
  have hc12 := (hc10.ext x11).ext x12
  -- what is told of what was begun
  have qF : Fresh s3.ws (atF 0 0) v n → headV s3.ws (atF 0 0) = (v, n, true) ∧ (haveW s3.ws (atF 0 0)).1 = 0#32 := fun q => ⟨(by unfold headV; rw [q.head]), q.have⟩
  have qS : s3.ws = s0.ws → headV s3.ws (atF 0 0) = headV s0.ws (atF 0 0) := fun q => by rw [q]
  have qN : headW s3.ws (atF 0 0) = none → (headV s3.ws (atF 0 0)).2.2 = false := fun q => by unfold headV; rw [q]
  have gH : ∃ H, H = headV s3.ws (atF 0 0) := ⟨_, rfl⟩
  obtain ⟨H, hH⟩ := gH
  rw [← hH0] at qS
  rw [← hH] at qF qS qN ⊢
  clear hH hH0
  have gV : ∃ V, V = (haveW s3.ws (atF 0 0)).1 := ⟨_, rfl⟩
  obtain ⟨V, hV⟩ := gV
  rw [← hV] at qF ⊢
  clear hV
  have qF1 : Fresh s3.ws (atF 0 0) v n → H.1 = v ∧ H.2.1 = n ∧ H.2.2 = true ∧ V = 0#32 := fun q => by
    have k := qF q
    rw [k.1]
    exact ⟨rfl, rfl, rfl, k.2⟩
  clear qF
  conv => whnf
  refine vcReg_meet lok (fun β : Bool => [(23, .bool β)]) (fun β w' => w' = w12 ∧ (Fresh s3.ws (atF 0 0) v n → β = true)) [23] (fun _ => rfl) rfl ?_ ?_
  · conv => whnf
    refine bcase (fun k1 => ?_) (fun k1 => ?_)
    · conv => whnf
      refine ⟨by decide, ?_⟩
      conv => whnf
      have hcell3 : w12.cell? ⟨cb, 0 + (2 : Int).toNat * 1, none⟩ = some (u32v c2) := by rw [show 0 + (2 : Int).toNat * 1 = 0 + 2 from rfl]; exact hc12.cell (i := 2) rfl
      refine ⟨u32v c2, hcell3, ?_⟩
      conv => whnf
      refine ⟨by decide, ?_⟩
      intro z hz
      have hz49 : z = ((c2.toNat % 1000 : Nat) : Int) := by rw [hz]; exact rem_nat _ 1000
      clear hz
      subst hz49
      conv => whnf
      intro z hz
      have hz50 : z = (v.toNat : Int) := by rw [hz, wu32]; omega
      clear hz
      subst hz50
      conv => whnf
      refine bcase (fun k2 => ?_) (fun k2 => ?_)
      · conv => whnf
        refine bcase (fun k3 => ?_) (fun k3 => ?_)
        · conv => whnf
          refine ⟨_, ⟨rfl, trivial⟩, rfl, fun q => ?_⟩
          rw [(qF1 q).2.2.2]
          rfl
        · conv => whnf
          exact ⟨_, ⟨rfl, trivial⟩, rfl, fun q => absurd (by rw [(qF1 q).2.1]) (df k3)⟩
      · conv => whnf
        exact ⟨_, ⟨rfl, trivial⟩, rfl, fun q => absurd (by rw [(qF1 q).1]) (df k2)⟩
    · conv => whnf
      exact ⟨_, ⟨rfl, trivial⟩, rfl, fun q => by rw [(qF1 q).2.2.1] at k1; cases k1⟩
  rintro β1 w13 ⟨hw13, hβ1⟩
  subst hw13
  conv => whnf
  refine vcReg_meet lok (fun β : Bool => [(24, .bool β)]) (fun β w' => w' = w13 ∧ (s3.ws = s0.ws → β = true)) [24] (fun _ => rfl) rfl ?_ ?_
  · conv => whnf
    refine bcase (fun k1 => ?_) (fun k1 => ?_)
    · conv => whnf
      refine bcase (fun k2 => ?_) (fun k2 => ?_)
      · conv => whnf
        exact ⟨_, ⟨rfl, trivial⟩, rfl, fun q => by rw [qS q]; exact decide_eq_true rfl⟩
      · conv => whnf
        exact ⟨_, ⟨rfl, trivial⟩, rfl, fun q => absurd (by rw [qS q]) (df k2)⟩
    · conv => whnf
      exact ⟨_, ⟨rfl, trivial⟩, rfl, fun q => by rw [qS q, beq_self_bool] at k1; cases k1⟩
  rintro β2 w14 ⟨hw14, hβ2⟩
  subst hw14
  conv => whnf
  refine vcReg_meet lok (fun β : Bool => [(153, .bool β)]) (fun β w' => w' = w14 ∧ β = false) [153] (fun _ => rfl) rfl ?_ ?_
  · rcases q2 with ⟨q2, q3⟩ | ⟨q2, q3⟩
    · have h1 := hβ1 q3
      subst h1
      subst q2
      conv => whnf
      exact ⟨_, ⟨rfl, trivial⟩, rfl, rfl⟩
    · subst q2
      rcases q3 with q3 | q3 | q3
      · have h1 := hβ1 q3
        subst h1
        conv => whnf
        refine bcase (fun k1 => ?_) (fun k1 => ?_)
        · conv => whnf
          exact ⟨_, ⟨rfl, trivial⟩, rfl, rfl⟩
        · conv => whnf
          exact ⟨_, ⟨rfl, trivial⟩, rfl, rfl⟩
      · have h2 := hβ2 q3
        subst h2
        conv => whnf
        refine bcase (fun k1 => ?_) (fun k1 => ?_)
        · conv => whnf
          refine bcase (fun k2 => ?_) (fun k2 => ?_)
          · conv => whnf
            exact ⟨_, ⟨rfl, trivial⟩, rfl, rfl⟩
          · conv => whnf
            exact ⟨_, ⟨rfl, trivial⟩, rfl, rfl⟩
        · conv => whnf
          exact ⟨_, ⟨rfl, trivial⟩, rfl, rfl⟩
      · have hb := qN q3
        rw [hb]
        conv => whnf
        exact ⟨_, ⟨rfl, trivial⟩, rfl, rfl⟩
  rintro β3 w15 ⟨hw15, rfl⟩
  subst hw15
  conv => whnf
  refine vcCond_false lok (rfl) ?_
  conv => whnf
  have x1115 := x11.trans x12
  have S15 := S10.ext x1115
  have g16 := cut_calls S15.f 1048576 0#32
  have sn16 := sn10.cut 1048576 (by decide) 0#32
  rw [cut_pos s3 _ (by decide) 0#32] at g16 sn16
  have gs4 : ∃ s4 : FS, s4 = { s3 with left := 1048576, mask := 0#32 } := ⟨_, rfl⟩
  obtain ⟨s4, hs4⟩ := gs4
  have so4 : s4.off = false := by rw [hs4]; exact so10
  have sl4 : s4.left = 1048576 := by rw [hs4]
  have sw4 : s4.ws = s3.ws := by rw [hs4]
  rw [← hs4] at g16 sn16
  clear hs4
  refine Calls.ret (g16) ?_
  rintro _ w16 ⟨rfl, f16, m16⟩
  conv => whnf
  have S16 : SlAt w.heap.size w16 sb g gw fc 0 s4 := S15.next f16 m16 (by rw [sw4])
  have x016 := FlMod.above m16 (x010.trans x1115) (by omega) (by omega)
  replace sn16 : Num s4 1536 20 := sn16
  have gd := drop_ok (n := 0) (slot := 0) so4 hbad (by rw [sl4]; decide) (by rw [hat, sn16.len]; decide)
  obtain ⟨t5, d1, d2, d3⟩ := gd
  have gdr := sdrop_calls S16 0 (by rw [sn16.len]; exact sn16) (by decide)
  rw [d1] at gdr
  refine Calls.ret (gdr) ?_
  rintro _ w17 ⟨rfl, S17, m17⟩
  conv => whnf
  replace S17 : SlAt w.heap.size w17 sb g gw fc 0 t5 := S17
  have x017 := FlMod.above m17 x016 (by omega) (by omega)
  have gh := shead_calls S17 0
  rw [headR_on d2 hbad] at gh
  have ev : headV t5.ws (atF 0 0) = (0#32, 0, false) := by unfold headV; rw [d3]
  rw [ev] at gh
  refine Calls.ret (gh) ?_
  rintro _ w18 ⟨rfl, x18⟩
  conv => whnf
  refine vcReg_go lok ?_
  conv => whnf
  refine Calls.ret (known22) ?_
  rintro _ w19 ⟨rfl, x19⟩
  conv => whnf
  exact ⟨rfl, x017.trans (x18.trans x19)⟩
end Go.Proofs.Ytgipackjnncabaa

/- Turns of the receiver's laws; the law XferRefuses, walked. -/
set_option linter.unusedVariables false
namespace Go.Proofs.Ytgipackjnncabaa
open Go.Vc Go.RowKit

/-- what a receiver is given: its cells, and what they read as -/
structure Tn where
  e : Ev
  slot : Int
  least : BitVec 32
  busy : Bool
  cut : BitVec 8
  mask : BitVec 32
def Tn.cells (t : Tn) : List Value := t.e.cells ++ [.int .i64 t.slot, u32v t.least, .bool t.busy, u8v t.cut, u32v t.mask]
theorem Tn.ev_cells (t : Tn) (i : Nat) (v : Value) (h : t.e.cells[i]? = some v) : t.cells[0 + i]? = some v := by
  rw [Nat.zero_add]
  have hl : i < t.e.cells.length := by
    rcases Nat.lt_or_ge i t.e.cells.length with q | q
    · exact q
    · rw [List.getElem?_eq_none q] at h; cases h
  exact (List.getElem?_append_left hl).trans h
theorem Tn.one (t : Tn) : ∀ u ∈ t.cells, u.oneCell' = true := by
  intro u hu
  simp only [Tn.cells, Ev.cells, Pk.cells, List.mem_cons, List.mem_append, List.not_mem_nil, or_false] at hu
  rcases hu with ((rfl | rfl | rfl) | rfl | rfl | rfl | rfl | rfl | rfl | rfl) | rfl | rfl | rfl | rfl | rfl <;> rfl
theorem fit_turn {w : World} {es : List Value} (h : Fit w (.st (.pair 10 (.st (.pair 1 .bool (.pair 1 .bool (.pair 1 (.slice 1 (.int .u8)) (.pair 7 (.st (.pair 1 (.int .i64) (.pair 1 (.int .u32) (.pair 1 (.int .i64) (.pair 1 (.int .i64) (.pair 1 (.int .i64) (.pair 1 (.int .u32) (.pair 1 (.slice 1 (.int .u8)) .unit)))))))) .unit)))))
    (.pair 1 (.int .i64) (.pair 1 (.int .u32) (.pair 1 .bool (.pair 1 (.int .u8) (.pair 1 (.int .u32) .unit))))))) es) : ∃ t : Tn, es = t.cells ∧ EvOk w t.e := by
  obtain ⟨c1, r1, e1, _, h1, c2, r2, e2, _, ⟨n2, h2, k2⟩, c3, r3, e3, _, ⟨n3, h3, k3⟩, c4, r4, e4, _, ⟨n4, h4⟩, c5, r5, e5, _, ⟨n5, h5, k5⟩, c6, r6, e6, _, ⟨n6, h6, k6⟩, h7⟩ := h
  have h7 : r6 = [] := h7
  have g := fit_ev h1
  obtain ⟨e, ee, he⟩ := g
  obtain ⟨m3, hm3⟩ := wf_u32 k3
  obtain ⟨m5, hm5⟩ := wf_u8 k5
  obtain ⟨m6, hm6⟩ := wf_u32 k6
  refine ⟨⟨e, n2, m3, n4, m5, m6⟩, ?_, he⟩
  rw [e1, e2, e3, e4, e5, e6, h2, h3, h4, h5, h6, h7, ee, hm3, hm5, hm6, List.append_nil]
  rfl

/-- what is refused -/
theorem rcv_err {s : FS} {n : Nat} {slot : Int} {least : BitVec 32} {busy : Bool} {b : List (BitVec 8)} (h : ¬ (unpackF b).2 = 0) : rcvF s n slot least busy b = (s, [], (unpackF b).2) := by
  unfold rcvF; rw [if_pos h]
theorem rcv_ack {s : FS} {n : Nat} {slot : Int} {least : BitVec 32} {busy : Bool} {b : List (BitVec 8)} (h0 : (unpackF b).2 = 0) (h : (unpackF b).1.kind = 3) : rcvF s n slot least busy b = (s, [], 4) := by
  unfold rcvF; rw [if_neg (fun q => q h0), if_pos h]
theorem rcv_stale {s : FS} {n : Nat} {slot : Int} {least : BitVec 32} {busy : Bool} {b : List (BitVec 8)} (h0 : (unpackF b).2 = 0) (h : ¬ (unpackF b).1.kind = 3) (hb : busy = true ∨ (unpackF b).1.ver.toNat ≤ least.toNat) :
    rcvF s n slot least busy b = (s, ackF (unpackF b).1.ver 0#32 0, 0) := by
  unfold rcvF; rw [if_neg (fun q => q h0), if_neg h, if_pos hb]

set_option maxRecDepth 100000 in
set_option maxHeartbeats 8000000 in
theorem xferRefuses_walk {w : World} {la : Option Addr} {lc : Nat} {l : List (BitVec 32)} (hl32 : Sl u32v w la l) (hll : l.length ≤ 9223372036854775807) (t : Tn) (ht : EvOk w t.e) :
    Calls Try.prog 39 #[.slice la l.length lc, .agg t.cells.toArray] w (Law w) := by
  refine calls_of_vc lok Try.func39 ?_ rfl
  conv => whnf
  intro w1 hw1
  have hc1 : Blk w1 w.heap.size 74 t.cells := by rw [hw1]; exact Blk.new w 74 _
  have x1 : Ext w w1 := by rw [hw1]; exact Ext.new _ _
  clear hw1
  have hclt := hc1.lt
  have gcb : ∃ cb, cb = w.heap.size := ⟨_, rfl⟩
  obtain ⟨cb, hcb⟩ := gcb
  rw [← hcb] at hc1 hclt ⊢
  conv => whnf
  refine vcLoop_inv lok (σ := Nat × Option Addr × Nat × List (BitVec 32))
    (fun ⟨i, ra, rc, ws⟩ => [(6, .int .i64 i), (5, .slice ra ws.length rc), (0, .slice la l.length lc), (3, .pointer (some ⟨cb, 0, none⟩))])
    (fun ⟨i, ra, rc, ws⟩ w' => i ≤ 1536 ∧ ws.length = i ∧ Own 42 u32v w1.heap.size w' ra rc ws ∧ Ext w1 w') (fun t => 1536 - t.1)
    (0, none, 0, []) ⟨rfl, rfl, rfl, rfl, trivial⟩ ⟨Nat.zero_le _, rfl, Own.nil _ _ _ _, Ext.refl _⟩ ?_
  rintro ⟨i, ra, rc, ws⟩ w2 ⟨hi, hwl, ho2, x2⟩
  conv => whnf
  refine vcCond_split lok rfl (fun h2 => ?_) (fun h2 => ?_)
  · have h2 := dt h2
    conv => whnf
    intro z hz
    clear hz
    conv => whnf
    intro z2 hz2
    have gy := u32_any hz2
    obtain ⟨y0, hy0⟩ := gy
    clear hz2
    subst hy0
    conv => whnf
    refine vcCond_meet (fun y : BitVec 32 => [(7, .int .u32 y.toNat), (6, .int .i64 i), (5, .slice ra ws.length rc), (0, .slice la l.length lc), (3, .pointer (some ⟨cb, 0, none⟩))]) (fun y w' => w' = w2) ?_ ?_
    · refine vcCond_split lok rfl (fun h3 => ?_) (fun h3 => ?_)
      · have h3 := dt h3
        conv => whnf
        refine ⟨by omega, ?_⟩
        intro z hz
        have hz10 : z = ((i % l.length : Nat) : Int) := by rw [hz]; exact rem_nat i l.length
        clear hz
        subst hz10
        conv => whnf
        have hix : i % l.length < l.length := Nat.mod_lt _ (by omega)
        have g11 := sl_get ((hl32.ext (x1.trans x2))) (((i % l.length : Nat) : Int)) (i % l.length) (by omega) (by omega)
        obtain ⟨p11, o11, ha11, hb11, hcell11⟩ := g11
        refine ⟨p11, o11, ha11, hb11, ?_⟩
        conv => whnf
        refine ⟨_, hcell11, ?_⟩
        conv => whnf
        exact ⟨_, ⟨rfl, rfl, rfl, rfl, rfl, trivial⟩, rfl⟩
      · conv => whnf
        exact ⟨y0, ⟨rfl, rfl, rfl, rfl, rfl, trivial⟩, rfl⟩
    rintro y w3 hw3
    subst hw3
    conv => whnf
    have g6 := run_word w3 y
    obtain ⟨w6, hr6, ho6, x6⟩ := g6
    refine ⟨_, _, hr6, ?_⟩
    conv => whnf
    have z6 := x6.size
    have z2 := x2.size
    have g7 := run_app (ty := 37) (d := 1) (ho2.ext x6) ho6.sl (by simp; omega) (by omega)
    obtain ⟨a7, c7, w7, hr7, ho7, hg7⟩ := g7
    refine ⟨_, _, hr7, ?_⟩
    have x7 : Ext w1 w7 := hg7.extOf (x2.trans x6) (fun g hg => (ho2.ge g hg).1)
    have el : (ws ++ [y]).length = i + 1 := by rw [List.length_append, hwl]; rfl
    have gy : ∃ ys, ys = ws ++ [y] := ⟨_, rfl⟩
    obtain ⟨ys, hys⟩ := gy
    rw [← hys] at ho7 el ⊢
    conv => whnf
    refine ⟨by omega, ?_⟩
    conv => whnf
    exact ⟨(i + 1, a7, c7, ys), ⟨rfl, rfl, rfl, rfl, trivial⟩, ⟨by omega, el, ho7, x7⟩, by show 1536 - (i + 1) < 1536 - i; omega⟩
  have h2 := df h2
  conv => whnf
  have hw1536 : ws.length = 1536 := by omega
  clear h2 hi hwl
  refine Calls.ret (of_big ho2.sl (by omega)) ?_
  rintro _ w3 hp
  conv => whnf
  rcases hp with ⟨_, g, gw, fc, rfl, f3, x3⟩ | ⟨hno, _⟩
  rotate_left
  · rw [hw1536] at hno; exact absurd hno (by decide)
  have sw0 : (newFS ws).ws = ws := rfl
  have sn0 : Num (newFS ws) 1536 0 := ⟨hw1536, ⟨Int.le_refl _, Int.le_refl _⟩, by show (-1 : Int) ≤ _; decide⟩
  have gs0 : ∃ s0, s0 = newFS ws := ⟨_, rfl⟩
  obtain ⟨s0, hs0⟩ := gs0
  rw [← hs0] at f3 sw0 sn0
  clear hs0
  have l0 := sn0.len
  have f3lo := f3.lo
  have f3lt := f3.lt
  have z1 := x1.size
  have z2 := x2.size
  have z3 := x3.size
  have x03 := x1.trans (x2.trans x3)
  have hc3 := (hc1.ext x2).ext x3
  have ho3 := ho2.ext x3
  have oge := fun b hb => (ho2.ge b hb).2
  conv => whnf
  refine Calls.ret (sopen_calls f3 (by omega) 0) ?_
  rintro _ w4 hp
  conv => whnf
  rcases hp with ⟨hno, _, _⟩ | ⟨m, hm, _, sb, rfl, hsb, S4, x4⟩
  · exact absurd ⟨by decide, by rw [l0]; decide⟩ hno
  have hm0 : m = 0 := by omega
  subst hm0
  clear hm
  have S4' : SlAt w.heap.size w4 sb g gw fc 0 s0 := ⟨S4.f.base (by omega), S4.b, S4.n1, S4.n2, S4.room, S4.small⟩
  clear S4
  have x04 := x03.trans x4
  have hc4 := hc3.ext x4
  have ho4 := ho3.ext x4
  conv => whnf
  refine vcReg_go lok ?_
  conv => whnf
  refine vcCond_false lok (rfl) ?_
  conv => whnf
  refine ⟨t.e.cells, rfl, hc4.cellsAt 0 _ t.ev_cells, ?_⟩
  conv => whnf
  have hebl := bytesE_len t.e
  refine Calls.ret (evBytes_calls t.e (ht.ext x04)) ?_
  rintro _ w5 ⟨a5, c5, rfl, hs5, hbc5, x5⟩
  conv => whnf
  have gbs : ∃ bs, bs = bytesE t.e := ⟨_, rfl⟩
  obtain ⟨bs, hbs⟩ := gbs
  rw [← hbs] at hs5 hbc5 hebl ⊢
  clear hbs
  conv => whnf
  refine Calls.ret (unpack_calls hs5 (by omega) hbc5) ?_
  rintro _ w6 ⟨a6, c6, rfl, ho6, x6⟩
  conv => whnf
  have gU : ∃ U, U = unpackF bs := ⟨_, rfl⟩
  obtain ⟨U, hU⟩ := gU
  have hUe : (unpackF bs).2 = U.2 := by rw [hU]
  have hUp : (unpackF bs).1 = U.1 := by rw [hU]
  rw [← hU] at ho6 ⊢
  clear hU
  obtain ⟨p, e⟩ := U
  have hUe : (unpackF bs).2 = e := hUe
  have hUp : (unpackF bs).1 = p := hUp
  have ho6 : Own 5 u8v w5.heap.size w6 a6 c6 p.data := ho6
  dsimp only
  conv => whnf
  intro w7 hw7
  have hb7 : Blk w7 w6.heap.size 112 (Pk.zero.cells none 0) := by rw [hw7]; exact Blk.new w6 112 _
  have x7 : Ext w6 w7 := by rw [hw7]; exact Ext.new _ _
  clear hw7
  conv => whnf
  have k8 := Blk.storeAgg lok hb7 (t := 112) (us := p.cells a6 c6) rfl 0 (Nat.le_refl 7) (Pk.one _ _ _)
  obtain ⟨w8, hr8, hb8, g8⟩ := k8
  have hb8 : Blk w8 w6.heap.size 112 (p.cells a6 c6) := hb8
  have x8 : Ext w6 w8 := g8.extOf x7 (fun g hg => by cases hg; exact Nat.le_refl _)
  refine ⟨w8, hr8, ?_⟩
  clear hr8 g8 hb7 x7
  have x48 := x5.trans (x6.trans x8)
  have x08 := x04.trans x48
  have S8 := S4'.ext x48
  have hc8 := hc4.ext x48
  have ho8 := ho4.ext x48
  have hs8 := hs5.ext (x6.trans x8)
  have z6 := (x4.trans (x5.trans x6)).size
  have gpb : ∃ pb, pb = w6.heap.size := ⟨_, rfl⟩
  obtain ⟨pb, hpb⟩ := gpb
  rw [← hpb] at hb8 ⊢
  conv => whnf
  refine ⟨_, hc8.cell (i := 10) rfl, ?_⟩
  conv => whnf
  refine ⟨_, hc8.cell (i := 11) rfl, ?_⟩
  conv => whnf
  refine ⟨_, hc8.cell (i := 12) rfl, ?_⟩
  conv => whnf
  refine Calls.ret (rcv_calls S8 t.slot t.least t.busy hs8 (by omega) hbc5 (by rw [l0]; exact sn0) (by decide)) ?_
  rintro _ w9 ⟨a9, c9, rfl, ho9, S9, m9⟩
  conv => whnf
  have x09 := FlMod.above m9 x08 (by omega) (by omega)
  have nfl : ∀ b, (b < w3.heap.size → b ≠ g → b ≠ gw → ¬ (b = g ∨ b = gw)) := fun b _ h1 h2 q => by rcases q with q | q; exact h1 q; exact h2 q
  have hc9 := m9.keepBlk hc8 (fun q => by rcases q with q | q <;> omega)
  have hb9 := m9.keepBlk hb8 (fun q => by rcases q with q | q <;> omega)
  have hw9 := m9.keepOwn ho8 (fun b hb q => by have := oge b hb; rcases q with q | q <;> omega)
  have gR : ∃ R, R = rcvF s0 0 t.slot t.least t.busy bs := ⟨_, rfl⟩
  obtain ⟨R, hR⟩ := gR
  rw [← hR] at ho9 S9 ⊢
  obtain ⟨r1, r2, r3⟩ := R
  have ho9 : Own 5 u8v w8.heap.size w9 a9 c9 r2 := ho9
  have S9 : SlAt w.heap.size w9 sb g gw fc 0 r1 := S9
  dsimp only
  conv => whnf
  refine vcCond_split lok rfl (fun k1 => ?_) (fun k1 => ?_)
  · -- no packet
    have k1 := ne_true k1
    have e1 := hR.trans (rcv_err (by rw [hUe]; exact k1))
    rw [hUe] at e1
    simp only [Prod.mk.injEq] at e1
    obtain ⟨e1, e2, e3⟩ := e1
    subst e1 e2 e3
    conv => whnf
    refine vcReg_go lok ?_
    conv => whnf
    refine bcase (fun _ => ?_) (fun q => absurd q (by simp))
    conv => whnf
    refine Calls.ret (fwords_calls (s := r1) S9.f (by omega)) ?_
    rintro _ w10 ⟨a10, c10, rfl, ho10, x10⟩
    conv => whnf
    refine Calls.ret (same_calls ho10.sl (hw9.ext x10).sl (by omega)) ?_
    rintro _ w11 ⟨rfl, x11⟩
    conv => whnf
    refine bcase (fun _ => ?_) (fun q => absurd q (by rw [sw0]; simp))
    conv => whnf
    refine Calls.ret (known23) ?_
    rintro _ w12 ⟨rfl, x12⟩
    conv => whnf
    exact ⟨rfl, x09.trans (x10.trans (x11.trans x12))⟩
  have k1 : e = 0 := ne_false k1
  conv => whnf
  refine ⟨_, hb9.cell (i := 0) rfl, ?_⟩
  conv => whnf
  refine vcCond_split lok rfl (fun k2 => ?_) (fun k2 => ?_)
  · -- an Ack
    have k2 := dt k2
    have e1 := hR.trans (rcv_ack (by rw [hUe]; exact k1) (by rw [hUp]; exact k2))
    simp only [Prod.mk.injEq] at e1
    obtain ⟨e1, e2, e3⟩ := e1
    subst e1 e2 e3
    conv => whnf
    refine vcReg_go lok ?_
    conv => whnf
    refine Calls.ret (fwords_calls (s := r1) S9.f (by omega)) ?_
    rintro _ w10 ⟨a10, c10, rfl, ho10, x10⟩
    conv => whnf
    refine Calls.ret (same_calls ho10.sl (hw9.ext x10).sl (by omega)) ?_
    rintro _ w11 ⟨rfl, x11⟩
    conv => whnf
    refine bcase (fun _ => ?_) (fun q => absurd q (by rw [sw0]; simp))
    conv => whnf
    refine Calls.ret (known23) ?_
    rintro _ w12 ⟨rfl, x12⟩
    conv => whnf
    exact ⟨rfl, x09.trans (x10.trans (x11.trans x12))⟩
  have k2 := df k2
  conv => whnf
  refine vcReg_meet lok (fun β : Bool => [(118, .bool β)]) (fun β w' => w' = w9 ∧ β = decide (t.busy = true ∨ p.ver.toNat ≤ t.least.toNat)) [118] (fun _ => rfl) rfl ?_ ?_
  · conv => whnf
    refine ⟨_, hc9.cell (i := 12) rfl, ?_⟩
    conv => whnf
    refine bcase (fun k3 => ?_) (fun k3 => ?_)
    · conv => whnf
      exact ⟨_, ⟨rfl, trivial⟩, rfl, by rw [decide_eq_true (.inl k3)]⟩
    · conv => whnf
      refine ⟨_, hb9.cell (i := 1) rfl, ?_⟩
      conv => whnf
      refine ⟨_, hc9.cell (i := 11) rfl, ?_⟩
      conv => whnf
      refine ⟨_, ⟨rfl, trivial⟩, rfl, ?_⟩
      rw [decide_eq_decide]
      exact ⟨fun q => .inr (by omega), fun q => by rcases q with q | q; rw [k3] at q; cases q; omega⟩
  rintro β w10 ⟨hw10, hβ⟩
  subst hw10
  conv => whnf
  refine vcCond_split lok rfl (fun k3 => ?_) (fun k3 => ?_)
  rotate_left
  · conv => whnf
    refine Calls.ret (known23) ?_
    rintro _ w12 ⟨rfl, x12⟩
    conv => whnf
    exact ⟨rfl, x09.trans x12⟩
  rw [k3] at hβ
  have k4 := dt hβ.symm
  have e1 := hR.trans (rcv_stale (by rw [hUe]; exact k1) (by rw [hUp]; exact k2) (by rw [hUp]; exact k4))
  rw [hUp] at e1
  simp only [Prod.mk.injEq] at e1
  obtain ⟨e1, e2, e3⟩ := e1
  subst e1 e3
  have hup := up_ack p.ver 0#32 0 (by decide)
  rw [← e2] at hup
  have hlen : r2.length ≤ 3000 := by rw [e2]; exact pack_len _
  have hle9 := ho9.le.1
  clear k3 hβ k4 hR e2
  conv => whnf
  refine Calls.ret (unpack_calls ho9.sl (by omega) hle9) ?_
  rintro _ w11 ⟨a11, c11, rfl, ho11, x11⟩
  conv => whnf
  rw [hup]
  dsimp only
  conv => whnf
  intro w12 hw12
  have hq12 : Blk w12 w11.heap.size 112 (Pk.zero.cells none 0) := by rw [hw12]; exact Blk.new w11 112 _
  have x12 : Ext w11 w12 := by rw [hw12]; exact Ext.new _ _
  clear hw12
  conv => whnf
  have k13 := Blk.storeAgg lok hq12 (t := 112) (us := (ackP p.ver 0#32 0).cells a11 c11) rfl 0 (Nat.le_refl 7) (Pk.one _ _ _)
  obtain ⟨w13, hr13, hq13, g13⟩ := k13
  have hq13 : Blk w13 w11.heap.size 112 ((ackP p.ver 0#32 0).cells a11 c11) := hq13
  have x13 : Ext w11 w13 := g13.extOf x12 (fun g hg => by cases hg; exact Nat.le_refl _)
  refine ⟨w13, hr13, ?_⟩
  have y13 := x11.trans x13
  have hb13 := hb9.ext y13
  have S13 := S9.ext y13
  have hw13 := hw9.ext y13
  clear hr13 g13 hq12 x12
  conv => whnf
  refine vcReg_go lok ?_
  conv => whnf
  refine ⟨_, hq13.cell (i := 0) rfl, ?_⟩
  conv => whnf
  refine ⟨_, hq13.cell (i := 4) rfl, ?_⟩
  conv => whnf
  refine ⟨_, hq13.cell (i := 1) rfl, ?_⟩
  conv => whnf
  refine ⟨_, hb13.cell (i := 1) rfl, ?_⟩
  conv => whnf
  refine bcase (fun _ => ?_) (fun q => absurd q (by simp [ackP]))
  conv => whnf
  refine Calls.ret (fwords_calls (s := r1) S13.f (by omega)) ?_
  rintro _ w14 ⟨a14, c14, rfl, ho14, x14⟩
  conv => whnf
  refine Calls.ret (same_calls ho14.sl (hw13.ext x14).sl (by omega)) ?_
  rintro _ w15 ⟨rfl, x15⟩
  conv => whnf
  refine bcase (fun _ => ?_) (fun q => absurd q (by rw [sw0]; simp))
  conv => whnf
  refine Calls.ret (known23) ?_
  rintro _ w16 ⟨rfl, x16⟩
  conv => whnf
  exact ⟨rfl, x09.trans (y13.trans (x14.trans (x15.trans x16)))⟩
end Go.Proofs.Ytgipackjnncabaa

/- The closed facts of the whole program that each row asks, the head word read as a list of characters once. Printed by a program. -/
set_option linter.unusedVariables false
set_option maxRecDepth 100000
namespace Go.Proofs.Ytgipackjnncabaa.hd
open Go Go.RowKit
def codes : List Nat := [104, 97, 114, 110, 101, 115, 115, 32, 99, 102, 55, 97, 102, 50, 51, 49, 57, 56, 98, 49, 57, 51, 102, 100, 98, 52, 99, 55, 55, 51, 54, 53, 98, 100, 52, 54, 57, 57, 48, 97, 50, 50, 97, 50, 102, 56, 54, 56, 52, 56, 98, 55, 55, 56, 51, 48, 97, 102, 99, 99, 99, 48, 100, 48, 54, 98, 52, 55, 52, 56, 102, 50, 32, 99, 117, 116, 32, 97, 116, 32, 109, 105, 100, 115, 116, 114, 101, 97, 109, 47, 109, 105, 100, 115, 116, 114, 101, 97, 109, 108, 97, 119, 48, 50, 46, 79, 99, 116, 101, 116, 80, 117, 116, 115, 32, 109, 105, 100, 115, 116, 114, 101, 97, 109, 47, 109, 105, 100, 115, 116, 114, 101, 97, 109, 108, 97, 119, 48, 50, 46, 79, 99, 116, 101, 116, 71, 101, 116, 115, 32, 109, 105, 100, 115, 116, 114, 101, 97, 109, 47, 109, 105, 100, 115, 116, 114, 101, 97, 109, 108, 97, 119, 48, 50, 46, 79, 99, 116, 101, 116, 66, 97, 99, 107, 32, 109, 105, 100, 115, 116, 114, 101, 97, 109, 47, 109, 105, 100, 115, 116, 114, 101, 97, 109, 108, 97, 119, 48, 50, 46, 79, 99, 116, 101, 116, 87, 104, 111, 108, 101, 32, 109, 105, 100, 115, 116, 114, 101, 97, 109, 47, 109, 105, 100, 115, 116, 114, 101, 97, 109, 108, 97, 119, 48, 50, 46, 79, 99, 116, 101, 116, 87, 111, 114, 100, 115, 32, 109, 105, 100, 115, 116, 114, 101, 97, 109, 47, 109, 105, 100, 115, 116, 114, 101, 97, 109, 108, 97, 119, 48, 50, 46, 79, 99, 116, 101, 116, 82, 117, 110, 115, 32, 109, 105, 100, 115, 116, 114, 101, 97, 109, 47, 109, 105, 100, 115, 116, 114, 101, 97, 109, 108, 97, 119, 48, 50, 46, 79, 99, 116, 101, 116, 82, 111, 119, 32, 109, 105, 100, 115, 116, 114, 101, 97, 109, 47, 109, 105, 100, 115, 116, 114, 101, 97, 109, 108, 97, 119, 48, 51, 46, 67, 114, 99, 83, 117, 109, 115, 32, 109, 105, 100, 115, 116, 114, 101, 97, 109, 47, 109, 105, 100, 115, 116, 114, 101, 97, 109, 108, 97, 119, 48, 51, 46, 67, 114, 99, 83, 101, 97, 108, 115, 32, 109, 105, 100, 115, 116, 114, 101, 97, 109, 47, 109, 105, 100, 115, 116, 114, 101, 97, 109, 108, 97, 119, 50, 51, 46, 88, 102, 101, 114, 82, 101, 99, 101, 105, 118, 101, 115, 32, 109, 105, 100, 115, 116, 114, 101, 97, 109, 47, 109, 105, 100, 115, 116, 114, 101, 97, 109, 108, 97, 119, 48, 51, 46, 67, 114, 99, 66, 97, 99, 107, 32, 109, 105, 100, 115, 116, 114, 101, 97, 109, 47, 109, 105, 100, 115, 116, 114, 101, 97, 109, 108, 97, 119, 48, 51, 46, 67, 114, 99, 84, 117, 114, 110, 101, 100, 32, 109, 105, 100, 115, 116, 114, 101, 97, 109, 47, 109, 105, 100, 115, 116, 114, 101, 97, 109, 108, 97, 119, 48, 51, 46, 67, 114, 99, 76, 105, 110, 101, 97, 114, 32, 109, 105, 100, 115, 116, 114, 101, 97, 109, 47, 109, 105, 100, 115, 116, 114, 101, 97, 109, 108, 97, 119, 50, 51, 46, 88, 102, 101, 114, 65, 114, 114, 105, 118, 101, 115, 32, 109, 105, 100, 115, 116, 114, 101, 97, 109, 47, 109, 105, 100, 115, 116, 114, 101, 97, 109, 108, 97, 119, 48, 51, 46, 67, 114, 99, 83, 116, 97, 114, 116, 115, 32, 109, 105, 100, 115, 116, 114, 101, 97, 109, 47, 109, 105, 100, 115, 116, 114, 101, 97, 109, 108, 97, 119, 48, 54, 46, 70, 108, 97, 115, 104, 79, 102, 32, 109, 105, 100, 115, 116, 114, 101, 97, 109, 47, 109, 105, 100, 115, 116, 114, 101, 97, 109, 108, 97, 119, 48, 54, 46, 70, 108, 97, 115, 104, 67, 108, 101, 97, 114, 115, 32, 109, 105, 100, 115, 116, 114, 101, 97, 109, 47, 109, 105, 100, 115, 116, 114, 101, 97, 109, 108, 97, 119, 48, 54, 46, 70, 108, 97, 115, 104, 84, 111, 114, 110, 32, 109, 105, 100, 115, 116, 114, 101, 97, 109, 47, 109, 105, 100, 115, 116, 114, 101, 97, 109, 108, 97, 119, 48, 54, 46, 70, 108, 97, 115, 104, 80, 108, 97, 121, 115, 32, 109, 105, 100, 115, 116, 114, 101, 97, 109, 47, 109, 105, 100, 115, 116, 114, 101, 97, 109, 108, 97, 119, 48, 54, 46, 70, 108, 97, 115, 104, 78, 105, 108, 32, 109, 105, 100, 115, 116, 114, 101, 97, 109, 47, 109, 105, 100, 115, 116, 114, 101, 97, 109, 108, 97, 119, 48, 54, 46, 70, 108, 97, 115, 104, 65, 112, 97, 114, 116, 32, 109, 105, 100, 115, 116, 114, 101, 97, 109, 47, 109, 105, 100, 115, 116, 114, 101, 97, 109, 108, 97, 119, 50, 51, 46, 88, 102, 101, 114, 80, 97, 99, 107, 115, 32, 109, 105, 100, 115, 116, 114, 101, 97, 109, 47, 109, 105, 100, 115, 116, 114, 101, 97, 109, 108, 97, 119, 50, 51, 46, 88, 102, 101, 114, 66, 97, 99, 107, 32, 109, 105, 100, 115, 116, 114, 101, 97, 109, 47, 109, 105, 100, 115, 116, 114, 101, 97, 109, 108, 97, 119, 48, 55, 46, 74, 111, 117, 114, 110, 97, 108, 78, 105, 108, 32, 109, 105, 100, 115, 116, 114, 101, 97, 109, 47, 109, 105, 100, 115, 116, 114, 101, 97, 109, 108, 97, 119, 50, 51, 46, 88, 102, 101, 114, 83, 101, 110, 100, 101, 114, 115, 32, 109, 105, 100, 115, 116, 114, 101, 97, 109, 47, 109, 105, 100, 115, 116, 114, 101, 97, 109, 108, 97, 119, 48, 55, 46, 74, 111, 117, 114, 110, 97, 108, 82, 111, 111, 109, 32, 109, 105, 100, 115, 116, 114, 101, 97, 109, 47, 109, 105, 100, 115, 116, 114, 101, 97, 109, 108, 97, 119, 48, 55, 46, 74, 111, 117, 114, 110, 97, 108, 65, 110, 121, 32, 109, 105, 100, 115, 116, 114, 101, 97, 109, 47, 109, 105, 100, 115, 116, 114, 101, 97, 109, 108, 97, 119, 48, 55, 46, 74, 111, 117, 114, 110, 97, 108, 80, 108, 97, 121, 115, 32, 109, 105, 100, 115, 116, 114, 101, 97, 109, 47, 109, 105, 100, 115, 116, 114, 101, 97, 109, 108, 97, 119, 48, 55, 46, 74, 111, 117, 114, 110, 97, 108, 67, 114, 97, 115, 104, 101, 115, 32, 109, 105, 100, 115, 116, 114, 101, 97, 109, 47, 109, 105, 100, 115, 116, 114, 101, 97, 109, 108, 97, 119, 48, 55, 46, 74, 111, 117, 114, 110, 97, 108, 65, 112, 97, 114, 116, 32, 109, 105, 100, 115, 116, 114, 101, 97, 109, 47, 109, 105, 100, 115, 116, 114, 101, 97, 109, 108, 97, 119, 50, 50, 46, 83, 108, 111, 116, 115, 66, 97, 99, 107, 32, 109, 105, 100, 115, 116, 114, 101, 97, 109, 47, 109, 105, 100, 115, 116, 114, 101, 97, 109, 108, 97, 119, 50, 50, 46, 83, 108, 111, 116, 115, 78, 105, 108, 32, 109, 105, 100, 115, 116, 114, 101, 97, 109, 47, 109, 105, 100, 115, 116, 114, 101, 97, 109, 108, 97, 119, 50, 50, 46, 83, 108, 111, 116, 115, 67, 114, 97, 115, 104, 101, 115, 32, 109, 105, 100, 115, 116, 114, 101, 97, 109, 47, 109, 105, 100, 115, 116, 114, 101, 97, 109, 108, 97, 119, 50, 50, 46, 83, 108, 111, 116, 115, 66, 101, 103, 117, 110, 32, 109, 105, 100, 115, 116, 114, 101, 97, 109, 47, 109, 105, 100, 115, 116, 114, 101, 97, 109, 108, 97, 119, 50, 50, 46, 83, 108, 111, 116, 115, 80, 108, 97, 121, 115, 32, 109, 105, 100, 115, 116, 114, 101, 97, 109, 47, 109, 105, 100, 115, 116, 114, 101, 97, 109, 108, 97, 119, 50, 50, 46, 83, 108, 111, 116, 115, 65, 112, 97, 114, 116, 32, 109, 105, 100, 115, 116, 114, 101, 97, 109, 47, 109, 105, 100, 115, 116, 114, 101, 97, 109, 108, 97, 119, 50, 51, 46, 88, 102, 101, 114, 82, 101, 102, 117, 115, 101, 115]
theorem io : Try.prog.initOrder = String.ofList (codes.map Char.ofNat) := by kernel_rfl
theorem il : Try.prog.initOrder.toList = codes.map Char.ofNat := by rw [io]; exact String.toList_ofList
def restCodes : List (List Nat) := [[97, 116], [109, 105, 100, 115, 116, 114, 101, 97, 109, 47, 109, 105, 100, 115, 116, 114, 101, 97, 109, 108, 97, 119, 48, 50, 46, 79, 99, 116, 101, 116, 80, 117, 116, 115], [109, 105, 100, 115, 116, 114, 101, 97, 109, 47, 109, 105, 100, 115, 116, 114, 101, 97, 109, 108, 97, 119, 48, 50, 46, 79, 99, 116, 101, 116, 71, 101, 116, 115], [109, 105, 100, 115, 116, 114, 101, 97, 109, 47, 109, 105, 100, 115, 116, 114, 101, 97, 109, 108, 97, 119, 48, 50, 46, 79, 99, 116, 101, 116, 66, 97, 99, 107], [109, 105, 100, 115, 116, 114, 101, 97, 109, 47, 109, 105, 100, 115, 116, 114, 101, 97, 109, 108, 97, 119, 48, 50, 46, 79, 99, 116, 101, 116, 87, 104, 111, 108, 101], [109, 105, 100, 115, 116, 114, 101, 97, 109, 47, 109, 105, 100, 115, 116, 114, 101, 97, 109, 108, 97, 119, 48, 50, 46, 79, 99, 116, 101, 116, 87, 111, 114, 100, 115], [109, 105, 100, 115, 116, 114, 101, 97, 109, 47, 109, 105, 100, 115, 116, 114, 101, 97, 109, 108, 97, 119, 48, 50, 46, 79, 99, 116, 101, 116, 82, 117, 110, 115], [109, 105, 100, 115, 116, 114, 101, 97, 109, 47, 109, 105, 100, 115, 116, 114, 101, 97, 109, 108, 97, 119, 48, 50, 46, 79, 99, 116, 101, 116, 82, 111, 119], [109, 105, 100, 115, 116, 114, 101, 97, 109, 47, 109, 105, 100, 115, 116, 114, 101, 97, 109, 108, 97, 119, 48, 51, 46, 67, 114, 99, 83, 117, 109, 115], [109, 105, 100, 115, 116, 114, 101, 97, 109, 47, 109, 105, 100, 115, 116, 114, 101, 97, 109, 108, 97, 119, 48, 51, 46, 67, 114, 99, 83, 101, 97, 108, 115], [109, 105, 100, 115, 116, 114, 101, 97, 109, 47, 109, 105, 100, 115, 116, 114, 101, 97, 109, 108, 97, 119, 50, 51, 46, 88, 102, 101, 114, 82, 101, 99, 101, 105, 118, 101, 115], [109, 105, 100, 115, 116, 114, 101, 97, 109, 47, 109, 105, 100, 115, 116, 114, 101, 97, 109, 108, 97, 119, 48, 51, 46, 67, 114, 99, 66, 97, 99, 107], [109, 105, 100, 115, 116, 114, 101, 97, 109, 47, 109, 105, 100, 115, 116, 114, 101, 97, 109, 108, 97, 119, 48, 51, 46, 67, 114, 99, 84, 117, 114, 110, 101, 100], [109, 105, 100, 115, 116, 114, 101, 97, 109, 47, 109, 105, 100, 115, 116, 114, 101, 97, 109, 108, 97, 119, 48, 51, 46, 67, 114, 99, 76, 105, 110, 101, 97, 114], [109, 105, 100, 115, 116, 114, 101, 97, 109, 47, 109, 105, 100, 115, 116, 114, 101, 97, 109, 108, 97, 119, 50, 51, 46, 88, 102, 101, 114, 65, 114, 114, 105, 118, 101, 115], [109, 105, 100, 115, 116, 114, 101, 97, 109, 47, 109, 105, 100, 115, 116, 114, 101, 97, 109, 108, 97, 119, 48, 51, 46, 67, 114, 99, 83, 116, 97, 114, 116, 115], [109, 105, 100, 115, 116, 114, 101, 97, 109, 47, 109, 105, 100, 115, 116, 114, 101, 97, 109, 108, 97, 119, 48, 54, 46, 70, 108, 97, 115, 104, 79, 102], [109, 105, 100, 115, 116, 114, 101, 97, 109, 47, 109, 105, 100, 115, 116, 114, 101, 97, 109, 108, 97, 119, 48, 54, 46, 70, 108, 97, 115, 104, 67, 108, 101, 97, 114, 115], [109, 105, 100, 115, 116, 114, 101, 97, 109, 47, 109, 105, 100, 115, 116, 114, 101, 97, 109, 108, 97, 119, 48, 54, 46, 70, 108, 97, 115, 104, 84, 111, 114, 110], [109, 105, 100, 115, 116, 114, 101, 97, 109, 47, 109, 105, 100, 115, 116, 114, 101, 97, 109, 108, 97, 119, 48, 54, 46, 70, 108, 97, 115, 104, 80, 108, 97, 121, 115], [109, 105, 100, 115, 116, 114, 101, 97, 109, 47, 109, 105, 100, 115, 116, 114, 101, 97, 109, 108, 97, 119, 48, 54, 46, 70, 108, 97, 115, 104, 78, 105, 108], [109, 105, 100, 115, 116, 114, 101, 97, 109, 47, 109, 105, 100, 115, 116, 114, 101, 97, 109, 108, 97, 119, 48, 54, 46, 70, 108, 97, 115, 104, 65, 112, 97, 114, 116], [109, 105, 100, 115, 116, 114, 101, 97, 109, 47, 109, 105, 100, 115, 116, 114, 101, 97, 109, 108, 97, 119, 50, 51, 46, 88, 102, 101, 114, 80, 97, 99, 107, 115], [109, 105, 100, 115, 116, 114, 101, 97, 109, 47, 109, 105, 100, 115, 116, 114, 101, 97, 109, 108, 97, 119, 50, 51, 46, 88, 102, 101, 114, 66, 97, 99, 107], [109, 105, 100, 115, 116, 114, 101, 97, 109, 47, 109, 105, 100, 115, 116, 114, 101, 97, 109, 108, 97, 119, 48, 55, 46, 74, 111, 117, 114, 110, 97, 108, 78, 105, 108], [109, 105, 100, 115, 116, 114, 101, 97, 109, 47, 109, 105, 100, 115, 116, 114, 101, 97, 109, 108, 97, 119, 50, 51, 46, 88, 102, 101, 114, 83, 101, 110, 100, 101, 114, 115], [109, 105, 100, 115, 116, 114, 101, 97, 109, 47, 109, 105, 100, 115, 116, 114, 101, 97, 109, 108, 97, 119, 48, 55, 46, 74, 111, 117, 114, 110, 97, 108, 82, 111, 111, 109], [109, 105, 100, 115, 116, 114, 101, 97, 109, 47, 109, 105, 100, 115, 116, 114, 101, 97, 109, 108, 97, 119, 48, 55, 46, 74, 111, 117, 114, 110, 97, 108, 65, 110, 121], [109, 105, 100, 115, 116, 114, 101, 97, 109, 47, 109, 105, 100, 115, 116, 114, 101, 97, 109, 108, 97, 119, 48, 55, 46, 74, 111, 117, 114, 110, 97, 108, 80, 108, 97, 121, 115], [109, 105, 100, 115, 116, 114, 101, 97, 109, 47, 109, 105, 100, 115, 116, 114, 101, 97, 109, 108, 97, 119, 48, 55, 46, 74, 111, 117, 114, 110, 97, 108, 67, 114, 97, 115, 104, 101, 115], [109, 105, 100, 115, 116, 114, 101, 97, 109, 47, 109, 105, 100, 115, 116, 114, 101, 97, 109, 108, 97, 119, 48, 55, 46, 74, 111, 117, 114, 110, 97, 108, 65, 112, 97, 114, 116], [109, 105, 100, 115, 116, 114, 101, 97, 109, 47, 109, 105, 100, 115, 116, 114, 101, 97, 109, 108, 97, 119, 50, 50, 46, 83, 108, 111, 116, 115, 66, 97, 99, 107], [109, 105, 100, 115, 116, 114, 101, 97, 109, 47, 109, 105, 100, 115, 116, 114, 101, 97, 109, 108, 97, 119, 50, 50, 46, 83, 108, 111, 116, 115, 78, 105, 108], [109, 105, 100, 115, 116, 114, 101, 97, 109, 47, 109, 105, 100, 115, 116, 114, 101, 97, 109, 108, 97, 119, 50, 50, 46, 83, 108, 111, 116, 115, 67, 114, 97, 115, 104, 101, 115], [109, 105, 100, 115, 116, 114, 101, 97, 109, 47, 109, 105, 100, 115, 116, 114, 101, 97, 109, 108, 97, 119, 50, 50, 46, 83, 108, 111, 116, 115, 66, 101, 103, 117, 110], [109, 105, 100, 115, 116, 114, 101, 97, 109, 47, 109, 105, 100, 115, 116, 114, 101, 97, 109, 108, 97, 119, 50, 50, 46, 83, 108, 111, 116, 115, 80, 108, 97, 121, 115], [109, 105, 100, 115, 116, 114, 101, 97, 109, 47, 109, 105, 100, 115, 116, 114, 101, 97, 109, 108, 97, 119, 50, 50, 46, 83, 108, 111, 116, 115, 65, 112, 97, 114, 116], [109, 105, 100, 115, 116, 114, 101, 97, 109, 47, 109, 105, 100, 115, 116, 114, 101, 97, 109, 108, 97, 119, 50, 51, 46, 88, 102, 101, 114, 82, 101, 102, 117, 115, 101, 115]]
def restW : List (List Char) := restCodes.map (·.map Char.ofNat)
theorem words0 : behindMainWord (wordsSigns (codes.map Char.ofNat)) = [Char.ofNat 99, Char.ofNat 117, Char.ofNat 116] :: restW := by kernel_rfl
theorem words : behindMainWord (wordsSigns Try.prog.initOrder.toList) = [Char.ofNat 99, Char.ofNat 117, Char.ofNat 116] :: restW := by rw [il]; exact words0
def mkMake (l : List (List Char)) (hl : List String) : Option Make := match l with
  | c :: rest => if c == "gc".toList || c == "spec".toList then some .whole else if c == "cut".toList || (c == "finals".toList && rest.head? == some "cut".toList) then some .cut else if c == "carried".toList then some .carried else if hl.isEmpty then none else some (.lifted hl)
  | [] => none
theorem make_eq (P : Program) : P.make = mkMake (behindMainWord (wordsSigns P.initOrder.toList)) P.headLifts := rfl
def mkEnter (l : List (List Char)) (lays bears : Bool) (fits : List String → Bool) : Bool := match l with
  | c :: rest =>
    ((c == "gc".toList || c == "spec".toList) && (rest.isEmpty || rest.head? == some "stop".toList)) ||
    (c == "carried".toList && rest.take 2 == ["gc".toList, "cut".toList] && !lays && !bears) ||
    ((stripLifts liftWords (c :: rest)).2.head? == some "cut".toList &&
      ((stripLifts liftWords (c :: rest)).1.contains "finals" || !lays) && ((stripLifts liftWords (c :: rest)).1.contains "reflectrows" || !bears) &&
      ((stripLifts liftWords (c :: rest)).1.contains "reflectrows" || !(stripLifts liftWords (c :: rest)).1.contains "leanrows") &&
      fits (stripLifts liftWords (c :: rest)).1)
  | [] => false
theorem enter_eq (P : Program) : P.mayEnter = mkEnter (behindMainWord (wordsSigns P.initOrder.toList)) P.laysLater P.bearsReflect P.doorFits := rfl
theorem laysLater : Try.prog.laysLater = false := by kernel_rfl
theorem bearsReflect : Try.prog.bearsReflect = false := by kernel_rfl
theorem mayEnter : Try.prog.mayEnter = true := by
  rw [enter_eq, words, laysLater, bearsReflect]
  kernel_rfl
theorem headLifts : Try.prog.headLifts = [] := by
  unfold Program.headLifts
  rw [words]
  kernel_rfl
theorem liftsFinal : Try.prog.liftsFinal = false := by
  unfold Program.liftsFinal
  rw [words, headLifts]
  kernel_rfl
theorem make : Try.prog.make = some .cut := by
  rw [make_eq, words, headLifts]
  kernel_rfl
theorem laidOut : laidOutB Try.prog = true := by kernel_rfl
theorem mapsRowed : mapsRowed Try.prog = true := by kernel_rfl
theorem stopsHeard : Try.prog.stopsHeard = true := by kernel_rfl
theorem own : ownKnob Try.prog.godebug = none := by kernel_rfl
theorem plainKeys : Try.prog.plainKeys = true := by kernel_rfl

theorem stops0 : (Try.prog.stops == []) = true := by kernel_rfl
theorem stopKnobs0 : (Try.prog.stopKnobs == []) = true := by kernel_rfl
/-- the closed facts of a row, those of the program given -/
theorem joined {f : FuncId} {fn : Func} {s : ChangeSpec} {c : OpenClaim} (h : (  c.wf (OpenSpec.ofChange s) &&
  fn.params.all (Try.prog.readableRec ·) && namedTie Try.prog c.named s.vars &&
  (c.stops == []) && (c.knobs == []) &&
  (c.inPlace == Try.prog.inPlace f) && (c.unfollowed == Try.prog.unfollowed f) && (c.recurses == Try.prog.recurses f) && (c.named == Try.prog.varsNamed f) &&
  (c.maps == (fn.params.toList ++ s.plain.varTypes Try.prog).any (Try.prog.mapsRec ·)) && (c.ifaces == (fn.params.toList ++ s.plain.varTypes Try.prog).any (Try.prog.ifacesRec ·)) && (c.mapsOut == Try.prog.mapsAmong fn.resultTypes.toList) &&
  (c.loops == (fn.params.toList ++ s.plain.varTypes Try.prog).any (Try.prog.loopsFrom ·)) && (c.wideKeys == (fn.params.toList ++ s.plain.varTypes Try.prog ++ fn.resultTypes.toList).any (Try.prog.wideKeysFrom ·)) &&
  s.vars.all (Try.prog.varReadable ·) && fn.resultTypes.all (fun t => Try.prog.readableRec t && decide (t < Try.prog.types.size)) && (c.ifacesOut == fn.resultTypes.toList.any (Try.prog.ifacesRec ·)) && (c.loopsOut == fn.resultTypes.toList.any (Try.prog.loopsFrom ·)) && c.plainKeys && c.shortTexts.isNone && (c.lifted == false) && (some Make.cut == some c.make) && (c.kinds == (if c.domain.isEmpty then [] else fn.params.toList.map fun t => match Try.prog.underlying t with | some (.int k) => some k | _ => none)) && (c.pinned == c.pinnedBy) &&
  (c.veiled == (fn.params.toList ++ s.plain.varTypes Try.prog ++ fn.resultTypes.toList).any (Try.prog.veiledRec ·)) && c.veiledFits Try.prog fn.params.toList (fn.params.toList ++ s.plain.varTypes Try.prog ++ fn.resultTypes.toList)) = true) : joinedFacts Try.prog f fn s c = true := by
  unfold joinedFacts
  simp only [Bool.and_eq_true] at h ⊢
  obtain ⟨⟨⟨⟨⟨⟨⟨⟨⟨⟨⟨⟨⟨⟨⟨⟨⟨⟨⟨⟨⟨⟨⟨⟨⟨m0, m1⟩, m2⟩, m3⟩, m4⟩, m5⟩, m6⟩, m7⟩, m8⟩, m9⟩, m10⟩, m11⟩, m12⟩, m13⟩, m14⟩, m15⟩, m16⟩, m17⟩, m18⟩, m19⟩, m20⟩, m21⟩, m22⟩, m23⟩, m24⟩, m25⟩ := h
  exact ⟨⟨⟨⟨⟨⟨⟨⟨⟨⟨⟨⟨⟨⟨⟨⟨⟨⟨⟨⟨⟨⟨⟨⟨⟨⟨⟨⟨⟨⟨⟨m0, laidOut⟩, mapsRowed⟩, m1⟩, m2⟩, m3⟩, stops0⟩, m4⟩, stopKnobs0⟩, m5⟩, m6⟩, m7⟩, m8⟩, m9⟩, m10⟩, m11⟩, m12⟩, m13⟩, m14⟩, m15⟩, m16⟩, m17⟩, (by rw [plainKeys, m18]; rfl)⟩, m19⟩, stopsHeard⟩, mayEnter⟩, (by rw [liftsFinal]; exact m20)⟩, (by rw [make]; exact m21)⟩, m22⟩, m23⟩, m24⟩, m25⟩
end Go.Proofs.Ytgipackjnncabaa.hd
