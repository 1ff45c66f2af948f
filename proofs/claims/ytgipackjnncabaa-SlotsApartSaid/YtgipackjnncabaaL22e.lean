/- The law SlotsBegun, walked. -/
import Derived.Test.YtgipackjnncabaaL22d
set_option linter.unusedVariables false
namespace Go.Proofs.Ytgipackjnncabaa
open Go.Vc Go.RowKit

theorem u32_any {z a : Int} (h : z = IntKind.u32.wrap a) : ∃ y : BitVec 32, z = (y.toNat : Int) := ⟨BitVec.ofInt 32 z, by rw [h, wu32, BitVec.toNat_ofInt]; omega⟩
theorem run_word (w : World) (x : BitVec 32) : ∃ w', (Instr.buildSlice 37 1 #[(0, u32v x)]).run Try.prog w = .ok (.slice (some ⟨w.heap.size, 0, none⟩) 1 1) w' ∧ Own 42 u32v w.heap.size w' (some ⟨w.heap.size, 0, none⟩) 1 [x] ∧ Ext w w' := by
  have g := run_buildN (P := Try.prog) (t := 37) (e := 42) e32.toElem [u32v x] (by simp [u32v, Value.oneCell']) (by simp) w
  exact ⟨_, g, own_lit (w := w) [x] (by simp), Ext.new _ _⟩
/-- what Head tells of words -/
def headV (ws : List (BitVec 32)) (p : Nat) : BitVec 32 × Nat × Bool := match headW ws p with
  | none => (0#32, 0, false)
  | some (v, m) => (v, m, true)
theorem headR_on {s : FS} {n : Nat} {slot : Int} (h : s.off = false) (hb : ¬ badF slot) : headR s n slot = headV s.ws (atF n slot) := headR_ok (check_ok h hb)
theorem haveF_on {s : FS} {n : Nat} {slot : Int} (h : s.off = false) (hb : ¬ badF slot) : haveF s n slot = haveW s.ws (atF n slot) := by unfold haveF; rw [if_neg (by rw [h]; simp [hb])]

theorem drop_ok {s : FS} {n : Nat} {slot : Int} (hs : s.off = false) (hb : ¬ badF slot) (hl : s.left ≠ 0) (hn : atF n slot + 768 ≤ s.ws.length) : ∃ t, dropSF s n slot = (t, 0) ∧ t.off = false ∧ headW t.ws (atF n slot) = none := by
  have hp : atF n slot = 256 * (n + 3 * slot.toNat) := by unfold atF; omega
  have e : dropSF s n slot = (s.did (fillF s.ws (256 * (n + 3 * slot.toNat)) 256), 0) := by
    unfold dropSF eraseF
    rw [check_ok hs hb, if_neg (by simp), hs, if_neg (by simp), if_neg (by omega), if_neg hl, Int.toNat_natCast]
  refine ⟨_, e, (did_off _ _).trans hs, headW_none (.inl ?_)⟩
  rw [did_ws, hp, fill_get0, if_pos (by omega)]

set_option maxRecDepth 100000 in
set_option maxHeartbeats 8000000 in
theorem slotsBegun_walk {w : World} {la : Option Addr} {lc : Nat} {l : List (BitVec 32)} (hl32 : Sl u32v w la l) (hll : l.length ≤ 9223372036854775807) (c0 c1 c2 : BitVec 32) (sz : Nat) (hsz : sz ≤ 65535) :
    Calls Try.prog 36 #[.slice la l.length lc, .agg #[.int .u32 c0.toNat, .int .u32 c1.toNat, .int .u32 c2.toNat], .int .u16 sz] w (Law w) := by
  refine calls_of_vc lok Try.func36 ?_ rfl
  conv => whnf
  intro w1 hw1
  have hc1 : Blk w1 w.heap.size 99 [u32v c0, u32v c1, u32v c2] ∨ Blk w1 w.heap.size 166 [u32v c0, u32v c1, u32v c2] := by right; rw [hw1]; exact Blk.new w 166 _
  replace hc1 : Blk w1 w.heap.size 166 [u32v c0, u32v c1, u32v c2] := by rw [hw1]; exact Blk.new w 166 _
  have x1 : Ext w w1 := by rw [hw1]; exact Ext.new _ _
  clear hw1
  have hclt := hc1.lt
  have gcb : ∃ cb, cb = w.heap.size := ⟨_, rfl⟩
  obtain ⟨cb, hcb⟩ := gcb
  rw [← hcb] at hc1 hclt ⊢
  conv => whnf
  refine vcLoop_inv lok (σ := Nat × Option Addr × Nat × List (BitVec 32))
    (fun ⟨i, ra, rc, ws⟩ => [(8, .int .i64 i), (7, .slice ra ws.length rc), (0, .slice la l.length lc), (4, .pointer (some ⟨cb, 0, none⟩)), (2, .int .u16 sz)])
    (fun ⟨i, ra, rc, ws⟩ w' => i ≤ 1536 ∧ ws.length = i ∧ Own 42 u32v w1.heap.size w' ra rc ws ∧ Ext w1 w') (fun t => 1536 - t.1)
    (0, none, 0, []) ⟨rfl, rfl, rfl, rfl, rfl, trivial⟩ ⟨Nat.zero_le _, rfl, Own.nil _ _ _ _, Ext.refl _⟩ ?_
  rintro ⟨i, ra, rc, ws⟩ w2 ⟨hi, hwl, ho2, x2⟩
  conv => whnf
  refine vcCond_split lok rfl (fun h2 => ?_) (fun h2 => ?_)
  · have h2 := dt h2
    conv => whnf
    intro z hz
    clear hz
    conv => whnf
    intro z2 hz2
    have gy := u32_any hz2
    obtain ⟨y0, hy0⟩ := gy
    clear hz2
    subst hy0
    conv => whnf
    refine vcCond_meet (fun y : BitVec 32 => [(9, .int .u32 y.toNat), (8, .int .i64 i), (7, .slice ra ws.length rc), (0, .slice la l.length lc), (4, .pointer (some ⟨cb, 0, none⟩)), (2, .int .u16 sz)]) (fun y w' => w' = w2) ?_ ?_
    · refine vcCond_split lok rfl (fun h3 => ?_) (fun h3 => ?_)
      · have h3 := dt h3
        conv => whnf
        refine ⟨by omega, ?_⟩
        intro z hz
        have hz10 : z = ((i % l.length : Nat) : Int) := by rw [hz]; exact rem_nat i l.length
        clear hz
        subst hz10
        conv => whnf
        have hix : i % l.length < l.length := Nat.mod_lt _ (by omega)
        have g11 := sl_get ((hl32.ext (x1.trans x2))) (((i % l.length : Nat) : Int)) (i % l.length) (by omega) (by omega)
        obtain ⟨p11, o11, ha11, hb11, hcell11⟩ := g11
        refine ⟨p11, o11, ha11, hb11, ?_⟩
        conv => whnf
        refine ⟨_, hcell11, ?_⟩
        conv => whnf
        exact ⟨_, ⟨rfl, rfl, rfl, rfl, rfl, rfl, trivial⟩, rfl⟩
      · conv => whnf
        exact ⟨y0, ⟨rfl, rfl, rfl, rfl, rfl, rfl, trivial⟩, rfl⟩
    rintro y w3 hw3
    subst hw3
    conv => whnf
    have g6 := run_word w3 y
    obtain ⟨w6, hr6, ho6, x6⟩ := g6
    refine ⟨_, _, hr6, ?_⟩
    conv => whnf
    have z6 := x6.size
    have z2 := x2.size
    have g7 := run_app (ty := 37) (d := 1) (ho2.ext x6) ho6.sl (by simp; omega) (by omega)
    obtain ⟨a7, c7, w7, hr7, ho7, hg7⟩ := g7
    refine ⟨_, _, hr7, ?_⟩
    have x7 : Ext w1 w7 := hg7.extOf (x2.trans x6) (fun g hg => (ho2.ge g hg).1)
    have el : (ws ++ [y]).length = i + 1 := by rw [List.length_append, hwl]; rfl
    have gy : ∃ ys, ys = ws ++ [y] := ⟨_, rfl⟩
    obtain ⟨ys, hys⟩ := gy
    rw [← hys] at ho7 el ⊢
    conv => whnf
    refine ⟨by omega, ?_⟩
    conv => whnf
    exact ⟨(i + 1, a7, c7, ys), ⟨rfl, rfl, rfl, rfl, rfl, trivial⟩, ⟨by omega, el, ho7, x7⟩, by show 1536 - (i + 1) < 1536 - i; omega⟩
  have h2 := df h2
  conv => whnf
  have hw1536 : ws.length = 1536 := by omega
  clear h2 hi hwl
  intro z hz
  have hz18 : z = (sz : Int) := by rw [hz]; exact wi64 (by omega)
  clear hz
  subst hz18
  conv => whnf
  refine ⟨by decide, ?_⟩
  intro z hz
  have hz19 : z = ((sz % 2048 : Nat) : Int) := by rw [hz]; exact rem_nat sz 2048
  clear hz
  subst hz19
  conv => whnf
  refine ⟨by omega, ?_⟩
  conv => whnf
  have gn : ∃ n : Nat, n = 1 + sz % 2048 ∧ 1 ≤ n ∧ n ≤ 2048 := ⟨_, rfl, by omega, by omega⟩
  obtain ⟨n, hn, hn1, hn2⟩ := gn
  rw [show (1 : Int) + ((sz % 2048 : Nat) : Int) = (n : Int) by omega]
  conv => whnf
  refine Calls.ret (of_big ho2.sl (by omega)) ?_
  rintro _ w3 hp
  conv => whnf
  rcases hp with ⟨_, g, gw, fc, rfl, f3, x3⟩ | ⟨hno, _⟩
  rotate_left
  · rw [hw1536] at hno; exact absurd hno (by decide)
  have so0 : (newFS ws).off = false := rfl
  have sn0 : Num (newFS ws) 1536 0 := ⟨hw1536, ⟨Int.le_refl _, Int.le_refl _⟩, by show (-1 : Int) ≤ _; decide⟩
  have gs0 : ∃ s0, s0 = newFS ws := ⟨_, rfl⟩
  obtain ⟨s0, hs0⟩ := gs0
  rw [← hs0] at f3 so0 sn0
  clear hs0
  have l0 := sn0.len
  have f3lo := f3.lo
  have f3lt := f3.lt
  have z1 := x1.size
  have z2 := x2.size
  have x03 := x1.trans (x2.trans x3)
  have hc3 := (hc1.ext x2).ext x3
  conv => whnf
  refine Calls.ret (sopen_calls f3 (by omega) 0) ?_
  rintro _ w4 hp
  conv => whnf
  rcases hp with ⟨hno, _, _⟩ | ⟨m, hm, _, sb, rfl, hsb, S4, x4⟩
  · exact absurd ⟨by decide, by rw [l0]; decide⟩ hno
  have hm0 : m = 0 := by omega
  subst hm0
  clear hm
  have hbad : ¬ badF 0 := by decide
  have hat : atF 0 0 = 0 := rfl
  have S4' : SlAt w.heap.size w4 sb g gw fc 0 s0 := ⟨S4.f.base (by omega), S4.b, S4.n1, S4.n2, S4.room, S4.small⟩
  clear S4
  conv => whnf
  refine vcReg_go lok ?_
  conv => whnf
  refine vcCond_false lok (rfl) ?_
  conv => whnf
  refine Calls.ret (shead_calls S4' 0) ?_
  rintro _ w5 ⟨rfl, x5⟩
  conv => whnf
  rw [headR_on so0 hbad]
  have gH0 : ∃ H, H = headV s0.ws (atF 0 0) := ⟨_, rfl⟩
  obtain ⟨H0, hH0⟩ := gH0
  rw [← hH0]
  have S5 := S4'.ext x5
  have hc5 := (hc3.ext x4).ext x5
  have x05 := x03.trans (x4.trans x5)
  have hc0lt := c0.isLt
  refine ⟨by decide, ?_⟩
  conv => whnf
  refine ⟨_, hc5.cell (i := 0) rfl, ?_⟩
  conv => whnf
  refine ⟨by decide, ?_⟩
  have gk8 : ∃ k8 : Nat, k8 = c0.toNat % 8 ∧ k8 < 8 := ⟨_, rfl, by omega⟩
  obtain ⟨k8, hk8, hk88⟩ := gk8
  intro z hz
  have hz31 : z = (k8 : Int) := by rw [hz, hk8]; exact rem_nat _ 8
  clear hz
  subst hz31
  conv => whnf
  intro z hz
  have hz32 : z = (k8 : Int) := by rw [hz]; exact wi64 (by omega)
  clear hz
  subst hz32
  conv => whnf
  refine ⟨by decide, ?_⟩
  conv => whnf
  have hcell1 : w5.cell? ⟨cb, 0 + (1 : Int).toNat * 1, none⟩ = some (u32v c1) := by rw [show 0 + (1 : Int).toNat * 1 = 0 + 1 from rfl]; exact hc5.cell (i := 1) rfl
  refine ⟨u32v c1, hcell1, ?_⟩
  conv => unfold vcPut; dsimp only
  rw [show Nat.blt 76 Try.f36.ntmps = true from rfl]
  conv => unfold vcOps; dsimp only
  conv => unfold vcOp; dsimp only [ev, evs]
  conv => whnf
  have g8 := cut_calls S5.f (k8 : Int) c1
  have sn8 := sn0.cut (k8 : Int) (by omega) c1
  rw [cut_pos s0 _ (by omega) c1] at g8 sn8
  have gs1 : ∃ s1 : FS, s1 = { s0 with left := (k8 : Int), mask := c1 } := ⟨_, rfl⟩
  obtain ⟨s1, hs1⟩ := gs1
  have sw1 : s1.ws = s0.ws := by rw [hs1]
  have so1 : s1.off = false := by rw [hs1]; exact so0
  rw [← hs1] at g8 sn8
  clear hs1
  replace sn8 : Num s1 1536 1 := sn8
  refine Calls.ret (g8) ?_
  rintro _ w8 ⟨rfl, f8, m8⟩
  conv => whnf
  have S8 : SlAt w.heap.size w8 sb g gw fc 0 s1 := S5.next f8 m8 (by rw [sw1])
  have x08 := FlMod.above m8 x05 (by omega) (by omega)
  have ncb : ¬ (cb = g ∨ cb = gw) := fun e => by rcases e with e | e <;> omega
  have hc8 := m8.keepBlk hc5 ncb
  have hcell2 : w8.cell? ⟨cb, 0 + (2 : Int).toNat * 1, none⟩ = some (u32v c2) := by rw [show 0 + (2 : Int).toNat * 1 = 0 + 2 from rfl]; exact hc8.cell (i := 2) rfl
  refine ⟨by decide, ?_⟩
  conv => whnf
  refine ⟨u32v c2, hcell2, ?_⟩
  conv => whnf
  have hc2lt := c2.isLt
  refine ⟨by decide, ?_⟩
  intro z hz
  have hz38 : z = ((c2.toNat % 1000 : Nat) : Int) := by rw [hz]; exact rem_nat _ 1000
  clear hz
  subst hz38
  conv => whnf
  have gv : ∃ v : BitVec 32, v = BitVec.ofNat 32 (1 + c2.toNat % 1000) := ⟨_, rfl⟩
  obtain ⟨v, hv⟩ := gv
  have hvn : v.toNat = 1 + c2.toNat % 1000 := by rw [hv, BitVec.toNat_ofNat]; omega
  clear hv
  intro z hz
  have hz39 : z = (v.toNat : Int) := by rw [hz, wu32]; omega
  clear hz
  subst hz39
  conv => whnf
  have hcan : canN v (n : Int) := ⟨fun e => by rw [e] at hvn; simp at hvn; omega, fun e => by rw [e] at hvn; have : ones.toNat = 4294967295 := rfl; omega, by omega, by omega⟩
  have gb := begin_cases (n := 0) (slot := 0) (v := v) (m := n) so1 hbad hcan (by rw [hat, sn8.len]; decide)
  have tn := begin_num (at_ := 0) (slot := 0) (v := v) (m := n) sn8
  have gbeg := sbegin_calls S8 0 v n (by rw [sn8.len]; exact sn8) (by decide)
  rw [Int.toNat_natCast, sw1] at gb
  have hres : ∃ t e, beginSF s1 0 0 v n = (t, e) ∧ ((e = 0 ∧ Fresh t.ws (atF 0 0) v n) ∨ (e = 7 ∧ (Fresh t.ws (atF 0 0) v n ∨ t.ws = s0.ws ∨ headW t.ws (atF 0 0) = none))) := by
    rcases gb with ⟨t, q1, q2, _, _⟩ | ⟨t, q1, _, _, q4⟩
    · exact ⟨t, 0, q1, .inl ⟨rfl, q2⟩⟩
    · exact ⟨t, 7, q1, .inr ⟨rfl, q4⟩⟩
  obtain ⟨t, e, q1, q2⟩ := hres
  rw [q1] at tn gbeg
  clear gb
  replace tn : Num t 1536 18 := tn
  refine Calls.ret (gbeg) ?_
  rintro _ w9 ⟨rfl, S9, m9⟩
  conv => whnf
  replace S9 : SlAt w.heap.size w9 sb g gw fc 0 t := S9
  have x09 := FlMod.above m9 x08 (by omega) (by omega)
  have hc9 := m9.keepBlk hc8 ncb
  refine Calls.ret (start_calls S9.f) ?_
  rintro _ w10 ⟨rfl, f10, m10⟩
  conv => whnf
  have S10 : SlAt w.heap.size w10 sb g gw fc 0 (startF t) := S9.next f10 m10 rfl
  have x010 := FlMod.above m10 x09 (by omega) (by omega)
  have hc10 := m10.keepBlk hc9 ncb
  have sn10 := tn.start
  have so10 : (startF t).off = false := rfl
  have sw10 : (startF t).ws = t.ws := rfl
  have gs3 : ∃ s3, s3 = startF t := ⟨_, rfl⟩
  obtain ⟨s3, hs3⟩ := gs3
  rw [← hs3] at S10 sn10 so10 sw10
  clear hs3 f10
  rw [← sw10] at q2
  refine Calls.ret (shead_calls S10 0) ?_
  rintro _ w11 ⟨rfl, x11⟩
  conv => whnf
  rw [headR_on so10 hbad]
  refine Calls.ret (shave_calls (S10.ext x11) 0) ?_
  rintro _ w12 ⟨rfl, x12⟩
  conv => whnf
  rw [haveF_on so10 hbad]
  have hc12 := (hc10.ext x11).ext x12
  -- what is told of what was begun
  have qF : Fresh s3.ws (atF 0 0) v n → headV s3.ws (atF 0 0) = (v, n, true) ∧ (haveW s3.ws (atF 0 0)).1 = 0#32 := fun q => ⟨(by unfold headV; rw [q.head]), q.have⟩
  have qS : s3.ws = s0.ws → headV s3.ws (atF 0 0) = headV s0.ws (atF 0 0) := fun q => by rw [q]
  have qN : headW s3.ws (atF 0 0) = none → (headV s3.ws (atF 0 0)).2.2 = false := fun q => by unfold headV; rw [q]
  have gH : ∃ H, H = headV s3.ws (atF 0 0) := ⟨_, rfl⟩
  obtain ⟨H, hH⟩ := gH
  rw [← hH0] at qS
  rw [← hH] at qF qS qN ⊢
  clear hH hH0
  have gV : ∃ V, V = (haveW s3.ws (atF 0 0)).1 := ⟨_, rfl⟩
  obtain ⟨V, hV⟩ := gV
  rw [← hV] at qF ⊢
  clear hV
  have qF1 : Fresh s3.ws (atF 0 0) v n → H.1 = v ∧ H.2.1 = n ∧ H.2.2 = true ∧ V = 0#32 := fun q => by
    have k := qF q
    rw [k.1]
    exact ⟨rfl, rfl, rfl, k.2⟩
  clear qF
  conv => whnf
  refine vcReg_meet lok (fun β : Bool => [(23, .bool β)]) (fun β w' => w' = w12 ∧ (Fresh s3.ws (atF 0 0) v n → β = true)) [23] (fun _ => rfl) rfl ?_ ?_
  · conv => whnf
    refine bcase (fun k1 => ?_) (fun k1 => ?_)
    · conv => whnf
      refine ⟨by decide, ?_⟩
      conv => whnf
      have hcell3 : w12.cell? ⟨cb, 0 + (2 : Int).toNat * 1, none⟩ = some (u32v c2) := by rw [show 0 + (2 : Int).toNat * 1 = 0 + 2 from rfl]; exact hc12.cell (i := 2) rfl
      refine ⟨u32v c2, hcell3, ?_⟩
      conv => whnf
      refine ⟨by decide, ?_⟩
      intro z hz
      have hz49 : z = ((c2.toNat % 1000 : Nat) : Int) := by rw [hz]; exact rem_nat _ 1000
      clear hz
      subst hz49
      conv => whnf
      intro z hz
      have hz50 : z = (v.toNat : Int) := by rw [hz, wu32]; omega
      clear hz
      subst hz50
      conv => whnf
      refine bcase (fun k2 => ?_) (fun k2 => ?_)
      · conv => whnf
        refine bcase (fun k3 => ?_) (fun k3 => ?_)
        · conv => whnf
          refine ⟨_, ⟨rfl, trivial⟩, rfl, fun q => ?_⟩
          rw [(qF1 q).2.2.2]
          rfl
        · conv => whnf
          exact ⟨_, ⟨rfl, trivial⟩, rfl, fun q => absurd (by rw [(qF1 q).2.1]) (df k3)⟩
      · conv => whnf
        exact ⟨_, ⟨rfl, trivial⟩, rfl, fun q => absurd (by rw [(qF1 q).1]) (df k2)⟩
    · conv => whnf
      exact ⟨_, ⟨rfl, trivial⟩, rfl, fun q => by rw [(qF1 q).2.2.1] at k1; cases k1⟩
  rintro β1 w13 ⟨hw13, hβ1⟩
  subst hw13
  conv => whnf
  refine vcReg_meet lok (fun β : Bool => [(24, .bool β)]) (fun β w' => w' = w13 ∧ (s3.ws = s0.ws → β = true)) [24] (fun _ => rfl) rfl ?_ ?_
  · conv => whnf
    refine bcase (fun k1 => ?_) (fun k1 => ?_)
    · conv => whnf
      refine bcase (fun k2 => ?_) (fun k2 => ?_)
      · conv => whnf
        exact ⟨_, ⟨rfl, trivial⟩, rfl, fun q => by rw [qS q]; exact decide_eq_true rfl⟩
      · conv => whnf
        exact ⟨_, ⟨rfl, trivial⟩, rfl, fun q => absurd (by rw [qS q]) (df k2)⟩
    · conv => whnf
      exact ⟨_, ⟨rfl, trivial⟩, rfl, fun q => by rw [qS q, beq_self_bool] at k1; cases k1⟩
  rintro β2 w14 ⟨hw14, hβ2⟩
  subst hw14
  conv => whnf
  refine vcReg_meet lok (fun β : Bool => [(153, .bool β)]) (fun β w' => w' = w14 ∧ β = false) [153] (fun _ => rfl) rfl ?_ ?_
  · rcases q2 with ⟨q2, q3⟩ | ⟨q2, q3⟩
    · have h1 := hβ1 q3
      subst h1
      subst q2
      conv => whnf
      exact ⟨_, ⟨rfl, trivial⟩, rfl, rfl⟩
    · subst q2
      rcases q3 with q3 | q3 | q3
      · have h1 := hβ1 q3
        subst h1
        conv => whnf
        refine bcase (fun k1 => ?_) (fun k1 => ?_)
        · conv => whnf
          exact ⟨_, ⟨rfl, trivial⟩, rfl, rfl⟩
        · conv => whnf
          exact ⟨_, ⟨rfl, trivial⟩, rfl, rfl⟩
      · have h2 := hβ2 q3
        subst h2
        conv => whnf
        refine bcase (fun k1 => ?_) (fun k1 => ?_)
        · conv => whnf
          refine bcase (fun k2 => ?_) (fun k2 => ?_)
          · conv => whnf
            exact ⟨_, ⟨rfl, trivial⟩, rfl, rfl⟩
          · conv => whnf
            exact ⟨_, ⟨rfl, trivial⟩, rfl, rfl⟩
        · conv => whnf
          exact ⟨_, ⟨rfl, trivial⟩, rfl, rfl⟩
      · have hb := qN q3
        rw [hb]
        conv => whnf
        exact ⟨_, ⟨rfl, trivial⟩, rfl, rfl⟩
  rintro β3 w15 ⟨hw15, rfl⟩
  subst hw15
  conv => whnf
  refine vcCond_false lok (rfl) ?_
  conv => whnf
  have x1115 := x11.trans x12
  have S15 := S10.ext x1115
  have g16 := cut_calls S15.f 1048576 0#32
  have sn16 := sn10.cut 1048576 (by decide) 0#32
  rw [cut_pos s3 _ (by decide) 0#32] at g16 sn16
  have gs4 : ∃ s4 : FS, s4 = { s3 with left := 1048576, mask := 0#32 } := ⟨_, rfl⟩
  obtain ⟨s4, hs4⟩ := gs4
  have so4 : s4.off = false := by rw [hs4]; exact so10
  have sl4 : s4.left = 1048576 := by rw [hs4]
  have sw4 : s4.ws = s3.ws := by rw [hs4]
  rw [← hs4] at g16 sn16
  clear hs4
  refine Calls.ret (g16) ?_
  rintro _ w16 ⟨rfl, f16, m16⟩
  conv => whnf
  have S16 : SlAt w.heap.size w16 sb g gw fc 0 s4 := S15.next f16 m16 (by rw [sw4])
  have x016 := FlMod.above m16 (x010.trans x1115) (by omega) (by omega)
  replace sn16 : Num s4 1536 20 := sn16
  have gd := drop_ok (n := 0) (slot := 0) so4 hbad (by rw [sl4]; decide) (by rw [hat, sn16.len]; decide)
  obtain ⟨t5, d1, d2, d3⟩ := gd
  have gdr := sdrop_calls S16 0 (by rw [sn16.len]; exact sn16) (by decide)
  rw [d1] at gdr
  refine Calls.ret (gdr) ?_
  rintro _ w17 ⟨rfl, S17, m17⟩
  conv => whnf
  replace S17 : SlAt w.heap.size w17 sb g gw fc 0 t5 := S17
  have x017 := FlMod.above m17 x016 (by omega) (by omega)
  have gh := shead_calls S17 0
  rw [headR_on d2 hbad] at gh
  have ev : headV t5.ws (atF 0 0) = (0#32, 0, false) := by unfold headV; rw [d3]
  rw [ev] at gh
  refine Calls.ret (gh) ?_
  rintro _ w18 ⟨rfl, x18⟩
  conv => whnf
  refine vcReg_go lok ?_
  conv => whnf
  refine Calls.ret (known22) ?_
  rintro _ w19 ⟨rfl, x19⟩
  conv => whnf
  exact ⟨rfl, x017.trans (x18.trans x19)⟩
end Go.Proofs.Ytgipackjnncabaa
