/- Own texts of this claim, joined: W22h, W22i, W02f, W22j, W22k, L22d, L22e. -/
import Derived.Test.YtgipackjnncabaaK37g

/- Walks of layer 22: the document's slots: the chunks that are there, sealed, whole, dropped, sealing. -/
set_option linter.unusedVariables false
namespace Go.Proofs.Ytgipackjnncabaa
open Go.Vc Go.RowKit

theorem check_off {s : FS} {slot : Int} (h : s.off = true) : checkF s slot = 7 := by unfold checkF; rw [if_pos h]
theorem check_bad {s : FS} {slot : Int} (h : s.off = false) (hb : badF slot) : checkF s slot = 1 := by unfold checkF; rw [if_neg (by rw [h]; simp), if_pos hb]
theorem two_pow_next (k : Nat) : (2 * ((BitVec.twoPow 32 k).toNat : Int)) % 4294967296 = ((BitVec.twoPow 32 (k + 1)).toNat : Int) := by
  rw [BitVec.toNat_twoPow, BitVec.toNat_twoPow, show 2 ^ (k + 1) = 2 ^ k * 2 from Nat.pow_succ 2 k]
  generalize 2 ^ k = y
  omega
section
variable {B : Nat} {w w' : World} {rb g gw c n i : Nat} {s t : FS}
set_option maxHeartbeats 2000000 in
/-- Have -/
theorem rshave_calls (h : RsAt B w rb g gw c n s) (slot : Int) : Calls Try.prog 181 #[.pointer (some ⟨rb, 0, none⟩), .int .i64 slot] w
    (Ret fun r w' => r = .tuple #[.int .u32 (haveF s n slot).1.toNat, .bool (haveF s n slot).2] ∧ Ext w w') := by
  rw [haveF_eq]
  have hsz := headR_size s n slot
  have hyes := headR_yes (s := s) (n := n) (slot := slot)
  refine calls_of_vc lok Try.func181 ?_ rfl
  conv => whnf
  refine Calls.ret (rshead_calls h slot) ?_
  rintro _ w1 ⟨rfl, x1⟩
  conv => whnf
  have gH : ∃ H, H = headR s n slot := ⟨_, rfl⟩
  obtain ⟨H, hH⟩ := gH
  rw [← hH] at hsz hyes ⊢
  clear hH
  obtain ⟨hv, hm, hb⟩ := H
  simp only at hsz hyes
  have h1 := h.ext x1
  conv => whnf
  refine vcCond_split lok rfl (fun h2 => ?_) (fun h2 => ?_)
  · have h2 : hb = false := by simpa using h2
    subst h2
    rw [if_neg (by simp)]
    conv => whnf
    exact ⟨rfl, x1⟩
  have h2 : hb = true := by simpa using h2
  subst h2
  rw [if_pos rfl]
  have hz := check_zero (hyes rfl)
  clear hyes
  have hpl := atF_le hz.2 h.room
  have hsm := h.small
  conv => whnf
  refine vcLoop_inv lok (σ := Nat)
    (fun k => [(12, .int .i64 k), (9, .int .u32 (haveB s.ws (atF n slot) hm k).toNat), (10, .int .u32 (BitVec.twoPow 32 k).toNat), (11, .bool (allB s.ws (atF n slot) hm k)), (7, .int .i64 hm), (0, .pointer (some ⟨rb, 0, none⟩)), (1, .int .i64 slot)])
    (fun k w' => k ≤ 32 ∧ RsAt B w' rb g gw c n s ∧ Ext w w') (fun k => 32 - k)
    0 ⟨rfl, rfl, rfl, rfl, rfl, rfl, rfl, trivial⟩ ⟨Nat.zero_le _, h1, x1⟩ ?_
  rintro k w2 ⟨hk, h2, x2⟩
  conv => whnf
  refine vcCond_split lok rfl (fun h3 => ?_) (fun h3 => ?_)
  rotate_left
  · have h3 := df h3
    conv => whnf
    have e : k = 32 := by omega
    subst e
    exact ⟨rfl, x2⟩
  have h3 := dt h3
  conv => whnf
  have hk32 : k < 32 := by omega
  have ebit : bitB s.ws (atF n slot) hm k = decide (64 * k < hm ∧ s.ws.getD (atF n slot + 3 + k) 0#32 = 0#32) := rfl
  have eall : allB s.ws (atF n slot) hm (k + 1) = (allB s.ws (atF n slot) hm k && decide (64 * k < hm → s.ws.getD (atF n slot + 3 + k) 0#32 = 0#32)) := allB_succ _ _ _ _
  have ehave : haveB s.ws (atF n slot) hm (k + 1) = haveB s.ws (atF n slot) hm k ||| (if bitB s.ws (atF n slot) hm k = true then BitVec.twoPow 32 k else 0#32) := rfl
  refine Calls.ret (rlong_calls hm hsz k (by omega)) ?_
  rintro _ w3 ⟨rfl, hw3⟩
  subst hw3
  have gL : ∃ L : Int, L = if (0 : Int) ≤ (k : Int) ∧ (k : Int) < 32 ∧ 64 * (k : Int) < hm then (lenC hm (k : Int).toNat : Int) else 0 := ⟨_, rfl⟩
  obtain ⟨L, hL⟩ := gL
  rw [← hL]
  conv => whnf
  have hlen : 64 * k < hm → 1 ≤ lenC hm k := fun q => by unfold lenC; omega
  refine vcCond_meet (fun _ : Unit => [(12, .int .i64 k), (9, .int .u32 (haveB s.ws (atF n slot) hm (k + 1)).toNat), (10, .int .u32 (BitVec.twoPow 32 k).toNat), (11, .bool (allB s.ws (atF n slot) hm (k + 1))), (7, .int .i64 hm), (0, .pointer (some ⟨rb, 0, none⟩)), (1, .int .i64 slot)])
    (fun _ w' => Ext w3 w') ?_ ?_
  · refine vcCond_split lok rfl (fun h4 => ?_) (fun h4 => ?_)
    · have h4 := dt h4
      have hkm : 64 * k < hm := by
        by_cases q : 64 * k < hm
        · exact q
        · rw [if_neg (by omega)] at hL; omega
      conv => whnf
      refine vcDraw_go lok mixed (Ext w3) [9] [0, 1, 2, 3, 4, 5, 6, 7, 8, 11, 9, 10, 12, 13, 14, 15] (by kernel_rfl) (fun w4 hw4 => ⟨hw4 ▸ Ext.drew w3, ?_⟩)
      have x4 : Ext w3 w4 := hw4 ▸ Ext.drew w3
      clear hw4
      conv => whnf
      refine ⟨_, fun w' hw' => (h2.b.ext hw').cell (i := 0) rfl, ?_⟩
      conv => whnf
      refine ⟨_, fun w' hw' => (h2.f.blk.ext hw').cell (i := 0) rfl, ?_⟩
      conv => whnf
      refine Calls.ret (rsplace_calls (h2.ext x4) slot hz.2) ?_
      rintro _ w5 ⟨rfl, hw5⟩
      subst hw5
      refine ⟨_, fun _ h => h, x4, ?_⟩
      conv => whnf
      have gp : ∃ p, p = atF n slot := ⟨_, rfl⟩
      obtain ⟨p, hp⟩ := gp
      rw [← hp] at hpl ebit eall ehave ⊢
      refine ⟨by omega, ?_⟩
      conv => whnf
      refine ⟨by omega, ?_⟩
      conv => whnf
      have g20 := sl_get (h2.f.own.sl) ((p : Int) + 3 + (k : Int)) (p + 3 + k) (by omega) (by omega)
      obtain ⟨p20, o20, ha20, hb20, hcell20⟩ := g20
      refine ⟨p20, o20, ha20, hb20, ?_⟩
      conv => whnf
      refine ⟨_, fun w' hw' => Below.cell_of hw' (cell_lt hcell20) hcell20, ?_⟩
      conv => whnf
      have ed : decide (((s.ws.getD (p + 3 + k) 0#32).toNat : Int) = 0) = decide (s.ws.getD (p + 3 + k) 0#32 = 0#32) := decide_eq_decide.2 num_zero
      rw [ed]
      refine vcCond_split lok rfl (fun h5 => ?_) (fun h5 => ?_)
      · have h5 := dt h5
        rw [h5] at ebit eall
        rw [decide_eq_true ⟨hkm, rfl⟩] at ebit
        rw [decide_eq_true (fun _ => rfl), Bool.and_true] at eall
        rw [ebit, if_pos rfl] at ehave
        rw [eall, ehave, ← haveB_add s.ws p hm k hk32]
        conv => whnf
        intro z hz
        have hz23 : z = ((haveB s.ws p hm k + BitVec.twoPow 32 k).toNat : Int) := by rw [hz, wu32, BitVec.toNat_add]; omega
        clear hz
        subst hz23
        conv => whnf
        exact ⟨(), ⟨rfl, rfl, rfl, rfl, rfl, rfl, rfl, trivial⟩, x4⟩
      · have h5 := df h5
        rw [decide_eq_false (fun q => h5 q.2)] at ebit
        rw [decide_eq_false (fun q => h5 (q hkm)), Bool.and_false] at eall
        rw [ebit, if_neg (by simp), BitVec.or_zero] at ehave
        rw [eall, ehave]
        conv => whnf
        exact ⟨(), ⟨rfl, rfl, rfl, rfl, rfl, rfl, rfl, trivial⟩, x4⟩
    · have h4 := df h4
      have hkm : ¬ 64 * k < hm := by
        intro q
        have := hlen q
        rw [if_pos (by omega), Int.toNat_natCast] at hL
        omega
      rw [decide_eq_false (fun q => hkm q.1)] at ebit
      rw [decide_eq_true (fun q => absurd q hkm), Bool.and_true] at eall
      rw [ebit, if_neg (by simp), BitVec.or_zero] at ehave
      rw [eall, ehave]
      conv => whnf
      exact ⟨(), ⟨rfl, rfl, rfl, rfl, rfl, rfl, rfl, trivial⟩, Ext.refl _⟩
  rintro ⟨⟩ w4 x4
  conv => whnf
  intro z hz
  have hz27 : z = ((BitVec.twoPow 32 (k + 1)).toNat : Int) := by rw [hz, wu32]; exact two_pow_next k
  clear hz
  subst hz27
  conv => whnf
  refine ⟨by omega, ?_⟩
  conv => whnf
  exact ⟨k + 1, ⟨rfl, rfl, rfl, rfl, rfl, rfl, rfl, trivial⟩, ⟨by omega, h2.ext x4, x2.trans x4⟩, by omega⟩

/-- Sealed -/
theorem rssealed_calls (h : RsAt B w rb g gw c n s) (slot : Int) : Calls Try.prog 179 #[.pointer (some ⟨rb, 0, none⟩), .int .i64 slot] w (Ret fun r w' => r = .bool (sealedF s n slot) ∧ Ext w w') := by
  have hyes := haveF_yes (s := s) (n := n) (slot := slot)
  unfold sealedF
  refine calls_of_vc lok Try.func179 ?_ rfl
  conv => whnf
  refine Calls.ret (rshave_calls h slot) ?_
  rintro _ w1 ⟨rfl, x1⟩
  conv => whnf
  have gH : ∃ H, H = haveF s n slot := ⟨_, rfl⟩
  obtain ⟨H, hH⟩ := gH
  rw [← hH] at hyes ⊢
  clear hH
  obtain ⟨hv, hb⟩ := H
  simp only at hyes ⊢
  have h1 := h.ext x1
  conv => whnf
  refine vcDraw_meet lok mixed (Ext w1) [11] [0, 1, 2, 3, 4, 5, 6, 7, 8, 9, 10, 11, 12, 13, 14, 15, 16, 17] (fun β : Bool => [(4, .bool β)])
    (fun β w' => β = (hb && decide (s.ws.getD (atF n slot + 35) 0#32 = 0#32)) ∧ Ext w1 w') [4] (fun _ => rfl) rfl (by kernel_rfl) (fun w2 hw2 => ⟨hw2 ▸ Ext.drew w1, ?_⟩) ?_
  · have x2 : Ext w1 w2 := hw2 ▸ Ext.drew w1
    clear hw2
    conv => whnf
    refine bcase (fun k1 => ?_) (fun k1 => ?_)
    · have hz := check_zero (hyes k1)
      have hpl := atF_le hz.2 h.room
      have hsm := h.small
      conv => whnf
      refine ⟨_, fun w' hw' => (h1.b.ext hw').cell (i := 0) rfl, ?_⟩
      conv => whnf
      refine ⟨_, fun w' hw' => (h1.f.blk.ext hw').cell (i := 0) rfl, ?_⟩
      conv => whnf
      refine Calls.ret (rsplace_calls (h1.ext x2) slot hz.2) ?_
      rintro _ w5 ⟨rfl, hw5⟩
      subst hw5
      refine ⟨_, fun _ h => h, x2, ?_⟩
      conv => whnf
      have gp : ∃ p, p = atF n slot := ⟨_, rfl⟩
      obtain ⟨p, hp⟩ := gp
      rw [← hp] at hpl ⊢
      refine ⟨by omega, ?_⟩
      conv => whnf
      have g38 := sl_get (h1.f.own.sl) ((p : Int) + 35) (p + 35) (by omega) (by omega)
      obtain ⟨p38, o38, ha38, hb38, hcell38⟩ := g38
      refine ⟨p38, o38, ha38, hb38, ?_⟩
      conv => whnf
      refine ⟨_, fun w' hw' => Below.cell_of hw' (cell_lt hcell38) hcell38, ?_⟩
      conv => whnf
      refine ⟨_, ⟨rfl, trivial⟩, ?_, x2⟩
      rw [k1]
      exact decide_eq_decide.2 num_zero
    · conv => whnf
      exact ⟨_, ⟨rfl, trivial⟩, by rw [k1]; rfl, x2⟩
  rintro β w2 ⟨rfl, x2⟩
  conv => whnf
  exact ⟨rfl, x1.trans x2⟩

theorem whole_off {s : FS} {n : Nat} {slot : Int} (h : s.off = true) : (wholeSF s n slot).2 = 7 := by
  unfold wholeSF
  rw [check_off h, if_pos (by decide)]
theorem whole_bad {s : FS} {n : Nat} {slot : Int} (h : s.off = false) (hb : badF slot) : (wholeSF s n slot).2 = 1 := by
  unfold wholeSF
  rw [check_bad h hb, if_pos (by decide)]
/-- whole -/
theorem rswhole_calls (h : RsAt B w rb g gw c n s) (slot : Int) : Calls Try.prog 180 #[.pointer (some ⟨rb, 0, none⟩), .int .i64 slot] w (Ret fun r w' => r = .int .i64 (wholeSF s n slot).2 ∧ Ext w w') := by
  refine calls_of_vc lok Try.func180 ?_ rfl
  conv => whnf
  refine Calls.ret (rshead_calls h slot) ?_
  rintro _ w1 ⟨rfl, x1⟩
  conv => whnf
  refine Calls.ret (rshave_calls (h.ext x1) slot) ?_
  rintro _ w2 ⟨rfl, x2⟩
  conv => whnf
  have x02 := x1.trans x2
  have h2 := h.ext x02
  have ewh := whole_head (s := s) (n := n) (slot := slot)
  have gH : ∃ H, H = headR s n slot := ⟨_, rfl⟩
  obtain ⟨H, hH⟩ := gH
  rw [← hH] at ewh ⊢
  clear hH
  have gV : ∃ V, V = haveF s n slot := ⟨_, rfl⟩
  obtain ⟨V, hV⟩ := gV
  rw [← hV] at ewh ⊢
  clear hV
  obtain ⟨a, m, hb⟩ := H
  obtain ⟨v, hv⟩ := V
  simp only at ewh
  conv => whnf
  refine ⟨_, h2.b.cell (i := 0) rfl, ?_⟩
  conv => whnf
  refine ⟨_, h2.f.blk.cell (i := 1) rfl, ?_⟩
  conv => whnf
  refine vcCond_split lok rfl (fun k1 => ?_) (fun k1 => ?_)
  · conv => whnf
    exact ⟨by rw [whole_off k1], x02⟩
  conv => whnf
  refine Calls.ret (rsbad_calls slot) ?_
  rintro _ w3 ⟨rfl, hw3⟩
  conv => whnf
  subst hw3
  refine vcCond_split lok rfl (fun k2 => ?_) (fun k2 => ?_)
  · have k2 := dt k2
    conv => whnf
    exact ⟨by rw [whole_bad k1 k2], x02⟩
  have k2 := df k2
  have ewh := ewh (check_ok k1 k2)
  conv => whnf
  refine vcCond_split lok rfl (fun k3 => ?_) (fun k3 => ?_)
  · have k3 : hb = false := by simpa using k3
    rw [k3, if_neg (by simp)] at ewh
    rw [ewh]
    conv => whnf
    exact ⟨rfl, x02⟩
  have k3 : hb = true := by simpa using k3
  rw [k3, if_pos rfl] at ewh
  conv => whnf
  refine vcCond_split lok rfl (fun k4 => ?_) (fun k4 => ?_)
  · have k4 : hv = false := by simpa using k4
    rw [k4, if_neg (by simp)] at ewh
    rw [ewh]
    conv => whnf
    exact ⟨rfl, x02⟩
  have k4 : hv = true := by simpa using k4
  rw [k4, if_pos rfl] at ewh
  rw [ewh]
  conv => whnf
  exact ⟨rfl, x02⟩

/-- Drop -/
theorem rsdrop_calls (h : RsAt B w rb g gw c n s) (slot : Int) (hop : Num s s.ws.length i) (hi : i ≤ 2305843009213693952) :
    Calls Try.prog 137 #[.pointer (some ⟨rb, 0, none⟩), .int .i64 slot] w (Ret fun v w' => v = .int .i64 (dropSF s n slot).2 ∧ RsAt B w' rb g gw c n (dropSF s n slot).1 ∧ FlMod g gw w w') := by
  have hr := h.room
  have hsm := h.small
  refine calls_of_vc lok Try.func137 ?_ rfl
  conv => whnf
  refine ⟨_, h.b.cell (i := 0) rfl, ?_⟩
  conv => whnf
  refine ⟨_, h.f.blk.cell (i := 1) rfl, ?_⟩
  conv => whnf
  refine vcCond_split lok rfl (fun k1 => ?_) (fun k1 => ?_)
  · have e : dropSF s n slot = (s, 7) := by unfold dropSF; rw [check_off k1, if_pos (by decide)]
    rw [e]
    conv => whnf
    exact ⟨rfl, h, Mod.refl _ _⟩
  conv => whnf
  refine Calls.ret (rsbad_calls slot) ?_
  rintro _ w1 ⟨rfl, hw1⟩
  conv => whnf
  subst hw1
  refine vcCond_split lok rfl (fun k2 => ?_) (fun k2 => ?_)
  · have k2 := dt k2
    have e : dropSF s n slot = (s, 1) := by unfold dropSF; rw [check_bad k1 k2, if_pos (by decide)]
    rw [e]
    conv => whnf
    exact ⟨rfl, h, Mod.refl _ _⟩
  have k2 := df k2
  have e : dropSF s n slot = eraseF s ((n + 3 * slot.toNat : Nat) : Int) := by unfold dropSF; rw [check_ok k1 k2, if_neg (by simp)]
  rw [e]
  have hlen : (eraseF s ((n + 3 * slot.toNat : Nat) : Int)).1.ws.length = s.ws.length := (hop.erase _).len
  unfold badF at k2
  conv => whnf
  refine vcDraw_go lok mixed (fun w' => w' = w1.drew) [] [0, 1, 2, 3, 4, 5, 6, 7, 8, 9, 10, 11, 12] (by kernel_rfl) (fun w2 hw2 => ⟨hw2, ?_⟩)
  have x2 : Ext w1 w2 := hw2 ▸ Ext.drew w1
  have h2 := h.ext x2
  conv => whnf
  refine ⟨_, fun w' hw' => by rw [hw', ← hw2]; exact h2.b.cell (i := 0) rfl, ?_⟩
  conv => whnf
  refine ⟨_, fun w' hw' => by rw [hw', ← hw2]; exact h2.b.cell (i := 1) rfl, ?_⟩
  conv => whnf
  refine ⟨by omega, ?_⟩
  conv => whnf
  refine ⟨by omega, ?_⟩
  conv => whnf
  rw [show (n : Int) + 3 * slot = ((n + 3 * slot.toNat : Nat) : Int) by omega]
  refine Calls.ret (rerase_calls h2.f _ (by omega) (hop.ok (by omega))) ?_
  rintro _ w3 ⟨rfl, f3, m3⟩
  conv => whnf
  exact ⟨rfl, h2.next f3 m3 hlen, (Mod.ofExt _ x2).trans m3⟩

/-- Seal -/
theorem rsseal_calls (h : RsAt B w rb g gw c n s) (slot : Int) (hop : Num s s.ws.length i) (hi : i ≤ 2305843009213693952) : Calls Try.prog 136 #[.pointer (some ⟨rb, 0, none⟩), .int .i64 slot] w
    (Ret fun r w' => r = .int .i64 (sealSF s n slot).2 ∧ RsAt B w' rb g gw c n (sealSF s n slot).1 ∧ FlMod g gw w w') := by
  have hr := h.room
  have hsm := h.small
  have hwz : (wholeSF s n slot).2 = 0 → checkF s slot = 0 := by
    intro q
    by_cases q2 : checkF s slot = 0
    · exact q2
    · unfold wholeSF at q
      rw [if_pos q2] at q
      exact absurd q q2
  unfold sealSF
  refine calls_of_vc lok Try.func136 ?_ rfl
  conv => whnf
  refine Calls.ret (rswhole_calls h slot) ?_
  rintro _ w1 ⟨rfl, x1⟩
  conv => whnf
  have gE : ∃ E, E = wholeSF s n slot := ⟨_, rfl⟩
  obtain ⟨E, hE⟩ := gE
  rw [← hE] at hwz ⊢
  clear hE
  obtain ⟨m, e⟩ := E
  simp only at hwz ⊢
  have h1 := h.ext x1
  refine vcCond_split lok rfl (fun k1 => ?_) (fun k1 => ?_)
  · have k1 : ¬ e = 0 := by simpa using k1
    rw [if_neg k1]
    conv => whnf
    exact ⟨rfl, h1, Mod.ofExt _ x1⟩
  have k1 : e = 0 := by simpa using k1
  rw [if_pos k1]
  have hz := check_zero (hwz k1)
  have hpl := atF_le hz.2 h.room
  have hlen : (progF s ((atF n slot + 35 : Nat) : Int) 0#32).1.ws.length = s.ws.length := (hop.prog _ _).len
  conv => whnf
  refine vcDraw_go lok mixed (Ext w1) [6] [0, 1, 2, 3, 4, 5, 6, 7, 8, 9] (by kernel_rfl) (fun w2 hw2 => ⟨hw2 ▸ Ext.drew w1, ?_⟩)
  have x2 : Ext w1 w2 := hw2 ▸ Ext.drew w1
  clear hw2
  conv => whnf
  refine ⟨_, fun w' hw' => (h1.b.ext hw').cell (i := 0) rfl, ?_⟩
  conv => whnf
  refine Calls.ret (rsplace_calls (h1.ext x2) slot hz.2) ?_
  rintro _ w5 ⟨rfl, hw5⟩
  subst hw5
  refine ⟨_, fun _ h => h, x2, ?_⟩
  conv => whnf
  refine ⟨by omega, ?_⟩
  conv => whnf
  rw [show ((atF n slot : Nat) : Int) + 35 = ((atF n slot + 35 : Nat) : Int) by omega]
  refine Calls.ret (rprog_calls (h1.ext x2).f ((atF n slot + 35 : Nat) : Int) 0#32 (by omega) (hop.ok (by omega))) ?_
  rintro _ w6 ⟨rfl, f6, m6⟩
  conv => whnf
  exact ⟨rfl, (h1.ext x2).next f6 m6 hlen, (Mod.ofExt _ (x1.trans x2)).trans m6⟩
end
end Go.Proofs.Ytgipackjnncabaa

/- Walks of layer 22: the document's slots: begun, written. -/
set_option linter.unusedVariables false
namespace Go.Proofs.Ytgipackjnncabaa
open Go.Vc Go.RowKit

theorem canN_iff (v : BitVec 32) (m : Int) : canN v m ↔ 1 ≤ v.toNat ∧ v.toNat ≤ 4294967294 ∧ 1 ≤ m ∧ m ≤ 2048 := by
  have h1 : v = 0#32 ↔ v.toNat = 0 := by rw [← BitVec.toNat_inj]; exact Iff.rfl
  have h2 : v = ones ↔ v.toNat = 4294967295 := by rw [← BitVec.toNat_inj]; exact Iff.rfl
  have hl := v.isLt
  unfold canN
  constructor
  · rintro ⟨a, b, c, d⟩
    have a : v.toNat ≠ 0 := fun e => a (h1.2 e)
    have b : v.toNat ≠ 4294967295 := fun e => b (h2.2 e)
    omega
  · rintro ⟨a, b, c, d⟩
    refine ⟨fun e => ?_, fun e => ?_, c, d⟩
    · have := h1.1 e; omega
    · have := h2.1 e; omega
theorem erase_code (t : FS) (k : Nat) (hk : k < t.ws.length / 256) : (eraseF t k).2 = 0 ∨ (eraseF t k).2 = 7 := by
  unfold eraseF
  split
  · exact .inr rfl
  · rw [if_neg (by omega)]
    split
    · exact .inr rfl
    · exact .inl rfl

theorem run_words3 (w : World) (x y z : BitVec 32) : ∃ w', (Instr.buildSlice 37 3 #[(0, u32v x), (1, u32v y), (2, u32v z)]).run Try.prog w = .ok (.slice (some ⟨w.heap.size, 0, none⟩) 3 3) w' ∧ Own 42 u32v w.heap.size w' (some ⟨w.heap.size, 0, none⟩) 3 [x, y, z] ∧ Ext w w' := by
  have g := run_buildN (P := Try.prog) (t := 37) (e := 42) e32.toElem [u32v x, u32v y, u32v z] (by simp [u32v, Value.oneCell']) (by simp) w
  exact ⟨_, g, own_lit (w := w) [x, y, z] (by simp), Ext.new _ _⟩
section
variable {B : Nat} {w w' : World} {rb g gw c n i : Nat} {s t : FS}
set_option maxHeartbeats 4000000 in
/-- Begin -/
theorem rsbegin_calls (h : RsAt B w rb g gw c n s) (slot : Int) (v : BitVec 32) (m : Int) (hop : Num s s.ws.length i) (hi : i ≤ 1152921504606846976) :
    Calls Try.prog 134 #[.pointer (some ⟨rb, 0, none⟩), .int .i64 slot, .int .u32 v.toNat, .int .i64 m] w (Ret fun r w' => r = .int .i64 (beginSF s n slot v m).2 ∧ RsAt B w' rb g gw c n (beginSF s n slot v m).1 ∧ FlMod g gw w w') := by
  have hr := h.room
  have hsm := h.small
  have hcan := canN_iff v m
  refine calls_of_vc lok Try.func134 ?_ rfl
  conv => whnf
  refine ⟨_, h.b.cell (i := 0) rfl, ?_⟩
  conv => whnf
  refine ⟨_, h.f.blk.cell (i := 1) rfl, ?_⟩
  conv => whnf
  refine vcCond_split lok rfl (fun k1 => ?_) (fun k1 => ?_)
  · have e : beginSF s n slot v m = (s, 7) := by unfold beginSF; rw [check_off k1, if_pos (by decide)]
    rw [e]
    conv => whnf
    exact ⟨rfl, h, Mod.refl _ _⟩
  conv => whnf
  refine vcReg_meet lok (fun β : Bool => [(36, .bool β)]) (fun β w' => w' = w ∧ β = !decide (¬ badF slot ∧ canN v m)) [36] (fun _ => rfl) rfl ?_ ?_
  · conv => whnf
    refine Calls.ret (rsbad_calls slot) ?_
    rintro _ w1 ⟨rfl, hw1⟩
    conv => whnf
    subst hw1
    refine bcase (fun q1 => ?_) (fun q1 => ?_)
    · have q1 := dt q1
      conv => whnf
      exact ⟨_, ⟨rfl, trivial⟩, rfl, by rw [decide_eq_false (fun q => q.1 q1)]; rfl⟩
    have q1 := df q1
    conv => whnf
    refine bcase (fun q2 => ?_) (fun q2 => ?_)
    · have q2 := dt q2
      conv => whnf
      exact ⟨_, ⟨rfl, trivial⟩, rfl, by rw [decide_eq_false (fun q => by have := hcan.1 q.2; omega)]; rfl⟩
    have q2 := df q2
    conv => whnf
    refine bcase (fun q3 => ?_) (fun q3 => ?_)
    · have q3 := dt q3
      conv => whnf
      exact ⟨_, ⟨rfl, trivial⟩, rfl, by rw [decide_eq_false (fun q => by have := hcan.1 q.2; omega)]; rfl⟩
    have q3 := df q3
    conv => whnf
    refine bcase (fun q4 => ?_) (fun q4 => ?_)
    · have q4 := dt q4
      conv => whnf
      exact ⟨_, ⟨rfl, trivial⟩, rfl, by rw [decide_eq_false (fun q => by have := hcan.1 q.2; omega)]; rfl⟩
    have q4 := df q4
    conv => whnf
    refine ⟨_, ⟨rfl, trivial⟩, rfl, ?_⟩
    by_cases q5 : m ≤ 2048
    · rw [decide_eq_false (by omega), decide_eq_true ⟨q1, hcan.2 (by omega)⟩]; rfl
    · rw [decide_eq_true (by omega), decide_eq_false (fun q => by have := hcan.1 q.2; omega)]; rfl
  rintro β w1 ⟨hw1, hβ⟩
  subst hw1
  conv => whnf
  refine vcCond_split lok rfl (fun h2 => ?_) (fun h2 => ?_)
  · rw [hβ] at h2
    have h2 : ¬ (¬ badF slot ∧ canN v m) := fun q => by rw [decide_eq_true q] at h2; cases h2
    have e : beginSF s n slot v m = (s, 1) := by
      unfold beginSF
      by_cases q : badF slot
      · rw [check_bad k1 q, if_pos (by decide)]
      · rw [check_ok k1 q, if_neg (by simp), if_pos (fun q2 => h2 ⟨q, q2⟩)]
    rw [e]
    conv => whnf
    exact ⟨rfl, h, Mod.refl _ _⟩
  rw [hβ] at h2
  have h2 : ¬ badF slot ∧ canN v m := by
    by_cases q : ¬ badF slot ∧ canN v m
    · exact q
    · rw [decide_eq_false q] at h2; cases h2
  clear hβ
  obtain ⟨hb, hcn⟩ := h2
  have ew : beginSF s n slot v m = if (eraseAllF s (n + 3 * slot.toNat) 3).2 = 0 then progAllF (eraseAllF s (n + 3 * slot.toNat) 3).1 (atF n slot) [v, BitVec.ofInt 32 m, 0#32]
      else ((eraseAllF s (n + 3 * slot.toNat) 3).1, 7) := by
    unfold beginSF
    rw [check_ok k1 hb, if_neg (by simp), if_neg (fun q => q hcn)]
  have hp := atF_le hb hr
  have hbs := hb
  unfold badF at hbs
  have hsl : ∃ k, k = n + 3 * slot.toNat ∧ k + 3 ≤ s.ws.length / 256 := ⟨_, rfl, by omega⟩
  obtain ⟨sec, hsec, hsec2⟩ := hsl
  rw [← hsec] at ew
  have gE : ∃ E, E = eraseAllF s sec 3 := ⟨_, rfl⟩
  obtain ⟨E3, hE⟩ := gE
  rw [← hE] at ew
  have gR : ∃ R, R = beginSF s n slot v m := ⟨_, rfl⟩
  obtain ⟨R, hR⟩ := gR
  rw [← hR] at ew ⊢
  clear hR
  conv => whnf
  refine vcLoop_inv lok (σ := Nat)
    (fun k => [(9, .int .i64 k), (0, .pointer (some ⟨rb, 0, none⟩)), (1, .int .i64 slot), (2, .int .u32 v.toNat), (3, .int .i64 m)])
    (fun k w' => k ≤ 3 ∧ ∃ sk, RsAt B w' rb g gw c n sk ∧ Num sk s.ws.length (i + k) ∧ FlMod g gw w1 w' ∧ E3 = eraseAllF sk (sec + k) (3 - k)) (fun k => 3 - k)
    0 ⟨rfl, rfl, rfl, rfl, rfl, trivial⟩ ⟨Nat.zero_le _, s, h, hop, Mod.refl _ _, hE⟩ ?_
  rintro k w3 ⟨hk, sk, h3, op3, m3, e3⟩
  have hl3 := op3.len
  conv => whnf
  refine vcCond_split lok rfl (fun h4 => ?_) (fun h4 => ?_)
  · have h4 := dt h4
    conv => whnf
    have hk3 : k < 3 := by omega
    rw [show 3 - k = (3 - (k + 1)) + 1 by omega, eraseAllF] at e3
    have hcode := erase_code sk (sec + k) (by omega)
    refine vcDraw_meet lok mixed (fun w' => w' = w3.drew) [] [0, 1, 2, 3, 4, 5, 6, 7, 8, 9, 10, 11, 12, 13, 14] (fun β : Bool => [(55, .bool β)])
      (fun β w' => β = !decide ((eraseF sk (sec + k : Nat)).2 = 0) ∧ RsAt B w' rb g gw c n (eraseF sk (sec + k : Nat)).1 ∧ FlMod g gw w1 w') [55] (fun _ => rfl) rfl (by kernel_rfl) (fun w4 hw4 => ⟨hw4, ?_⟩) ?_
    · have x4 : Ext w3 w4 := hw4 ▸ Ext.drew w3
      have h4 := h3.ext x4
      conv => whnf
      refine ⟨_, fun w' hw' => by rw [hw', ← hw4]; exact h4.b.cell (i := 0) rfl, ?_⟩
      conv => whnf
      refine ⟨_, fun w' hw' => by rw [hw', ← hw4]; exact h4.b.cell (i := 1) rfl, ?_⟩
      conv => whnf
      refine ⟨by omega, ?_⟩
      conv => whnf
      refine ⟨by omega, ?_⟩
      conv => whnf
      refine ⟨by omega, ?_⟩
      conv => whnf
      rw [show (n : Int) + 3 * slot + (k : Int) = ((sec + k : Nat) : Int) by omega]
      refine Calls.ret (rerase_calls h4.f ((sec + k : Nat) : Int) (by omega) (op3.ok (by omega))) ?_
      rintro _ w6 ⟨rfl, f6, m6⟩
      conv => whnf
      exact ⟨_, ⟨rfl, trivial⟩, rfl, h4.next f6 m6 (eraseF_le sk _).len, (m3.trans (Mod.ofExt _ x4)).trans m6⟩
    rintro β w4 ⟨hβ, h5, m5⟩
    conv => whnf
    refine vcCond_split lok rfl (fun h6 => ?_) (fun h6 => ?_)
    · rw [hβ] at h6
      have h6 : ¬ (eraseF sk ((sec + k : Nat) : Int)).2 = 0 := fun q => by rw [decide_eq_true q] at h6; cases h6
      rw [if_neg h6] at e3
      rw [e3, if_neg h6] at ew
      rw [ew]
      conv => whnf
      exact ⟨rfl, h5, m5⟩
    · rw [hβ] at h6
      have h6 : (eraseF sk ((sec + k : Nat) : Int)).2 = 0 := by
        by_cases q : (eraseF sk ((sec + k : Nat) : Int)).2 = 0
        · exact q
        · rw [decide_eq_false q] at h6; cases h6
      rw [if_pos h6] at e3
      conv => whnf
      refine ⟨by omega, ?_⟩
      conv => whnf
      exact ⟨k + 1, ⟨rfl, rfl, rfl, rfl, rfl, trivial⟩, ⟨by omega, _, h5, (op3.erase _).up (by omega), m5, e3⟩, by omega⟩
  have h4 := df h4
  conv => whnf
  have hk3 : k = 3 := by omega
  subst hk3
  rw [show 3 - 3 = 0 from rfl, eraseAllF] at e3
  rw [e3, if_pos rfl] at ew
  clear e3 hE
  have hm2 := hcn.2.2
  intro y hz
  have hz37 : y = ((BitVec.ofInt 32 m).toNat : Int) := by rw [hz, wu32, BitVec.toNat_ofInt]; omega
  clear hz
  subst hz37
  conv => whnf
  have g5 := run_words3 w3 v (BitVec.ofInt 32 m) 0#32
  obtain ⟨w5, hr5, ho5, x5⟩ := g5
  refine ⟨_, _, hr5, ?_⟩
  clear hr5
  have hg3 := h3.f.lt
  have gxs : ∃ xs, xs = [v, BitVec.ofInt 32 m, 0#32] ∧ xs.length = 3 := ⟨_, rfl, rfl⟩
  obtain ⟨xs, hxs, hxl⟩ := gxs
  rw [← hxs] at ho5 ew
  clear hxs
  have h5 := h3.ext x5
  conv => whnf
  refine vcLoop_inv lok (σ := Nat)
    (fun k => [(11, .int .i64 k), (10, .slice (some ⟨w3.heap.size, 0, none⟩) 3 3), (0, .pointer (some ⟨rb, 0, none⟩)), (1, .int .i64 slot)])
    (fun k w' => k ≤ 3 ∧ ∃ sk, RsAt B w' rb g gw c n sk ∧ Num sk s.ws.length (i + 3 + k) ∧ FlMod g gw w5 w' ∧ R = progAllF sk (atF n slot + k : Nat) (xs.drop k)) (fun k => 3 - k)
    0 ⟨rfl, rfl, rfl, rfl, trivial⟩ ⟨Nat.zero_le _, sk, h5, op3, Mod.refl _ _, by rw [Nat.add_zero, List.drop_zero]; exact ew⟩ ?_
  rintro k w6 ⟨hk, s6, h6, op6, m6, e6⟩
  have hl6 := op6.len
  conv => whnf
  refine vcCond_split lok rfl (fun h4 => ?_) (fun h4 => ?_)
  rotate_left
  · have h4 := df h4
    conv => whnf
    have hk3 : k = 3 := by omega
    rw [List.drop_of_length_le (by omega), progAllF] at e6
    rw [e6]
    exact ⟨rfl, h6, m3.trans ((Mod.ofExt _ x5).trans m6)⟩
  have h4 := dt h4
  conv => whnf
  have hk3 : k < 3 := by omega
  have edr : xs.drop k = xs.getD k 0#32 :: xs.drop (k + 1) := by
    rw [List.drop_eq_getElem_cons (by omega)]
    simp [List.getD, List.getElem?_eq_getElem (show k < xs.length by omega)]
  rw [edr, progAllF] at e6
  have ho6 := m6.keepOwn ho5 (fun b hb e => by
      have := (ho5.ge b hb).1
      rcases e with e | e <;> omega)
  refine vcDraw_meet lok mixed (Ext w6) [6] [0, 1, 2, 3, 4, 5, 7, 9, 10, 11, 12, 6, 8, 13, 14] (fun β : Bool => [(78, .bool β)])
      (fun β w' => β = !decide ((progF s6 (atF n slot + k : Nat) (xs.getD k 0#32)).2 = 0) ∧ RsAt B w' rb g gw c n (progF s6 (atF n slot + k : Nat) (xs.getD k 0#32)).1 ∧ FlMod g gw w5 w') [78] (fun _ => rfl) rfl (by kernel_rfl) (fun w7 hw7 => ⟨hw7 ▸ Ext.drew w6, ?_⟩) ?_
  · have x7 : Ext w6 w7 := hw7 ▸ Ext.drew w6
    clear hw7
    conv => whnf
    refine ⟨_, fun w' hw' => (h6.b.ext hw').cell (i := 0) rfl, ?_⟩
    conv => whnf
    have g8 := sl_get ho6.sl (k : Int) k rfl (by omega)
    obtain ⟨p8, o8, ha8, hb8, hcell8⟩ := g8
    refine ⟨p8, o8, ha8, ⟨by omega, by omega⟩, ?_⟩
    conv => whnf
    refine ⟨_, fun w' hw' => Below.cell_of hw' (cell_lt hcell8) hcell8, ?_⟩
    conv => whnf
    refine Calls.ret (rsplace_calls (h6.ext x7) slot hb) ?_
    rintro _ w8 ⟨rfl, hw8⟩
    subst hw8
    refine ⟨_, fun _ h => h, x7, ?_⟩
    conv => whnf
    refine ⟨by omega, ?_⟩
    conv => whnf
    rw [show ((atF n slot : Nat) : Int) + (k : Int) = ((atF n slot + k : Nat) : Int) by omega]
    refine Calls.ret (rprog_calls (h6.ext x7).f ((atF n slot + k : Nat) : Int) (xs.getD k 0#32) (by omega) (op6.ok (by omega))) ?_
    rintro _ w9 ⟨rfl, f9, m9⟩
    conv => whnf
    exact ⟨_, ⟨rfl, trivial⟩, rfl, (h6.ext x7).next f9 m9 (progF_le s6 _ _).len, (m6.trans (Mod.ofExt _ x7)).trans m9⟩
  rintro β w7 ⟨hβ, h7, m7⟩
  conv => whnf
  refine vcCond_split lok rfl (fun h8 => ?_) (fun h8 => ?_)
  · rw [hβ] at h8
    have h8 : ¬ (progF s6 ((atF n slot + k : Nat) : Int) (xs.getD k 0#32)).2 = 0 := fun q => by rw [decide_eq_true q] at h8; cases h8
    rw [if_neg h8] at e6
    rw [e6]
    conv => whnf
    exact ⟨rfl, h7, m3.trans ((Mod.ofExt _ x5).trans m7)⟩
  · rw [hβ] at h8
    have h8 : (progF s6 ((atF n slot + k : Nat) : Int) (xs.getD k 0#32)).2 = 0 := by
      by_cases q : (progF s6 ((atF n slot + k : Nat) : Int) (xs.getD k 0#32)).2 = 0
      · exact q
      · rw [decide_eq_false q] at h8; cases h8
    rw [if_pos h8] at e6
    conv => whnf
    refine ⟨by omega, ?_⟩
    conv => whnf
    exact ⟨k + 1, ⟨rfl, rfl, rfl, rfl, trivial⟩, ⟨by omega, _, h7, (op6.prog _ _).up (by omega), m7, by rw [show ((atF n slot + (k + 1) : Nat) : Int) = ((atF n slot + k : Nat) : Int) + 1 by omega]; exact e6⟩, by omega⟩
end
end Go.Proofs.Ytgipackjnncabaa

/- Walks of layer 2, sixth part: the reference of octet.Words. -/
set_option linter.unusedVariables false
namespace Go.Proofs.Ytgipackjnncabaa
open Go.Vc Go.RowKit

theorem wordsF_take (bs : List (BitVec 8)) (i : Nat) (hi : i < (bs.length + 3) / 4) : (wordsF bs).take (i + 1) = (wordsF bs).take i ++ [wordOf (four bs i)] := by
  rw [List.take_succ_eq_append_getElem (by rw [wordsF_len]; exact hi)]
  simp [wordsF]

theorem four_drop (bs : List (BitVec 8)) (i j : Nat) (hj : j < 4) : (four bs i).drop j = bs.getD (4 * i + j) 255#8 :: (four bs i).drop (j + 1) := by
  rw [List.drop_eq_getElem_cons (by rw [four_len]; exact hj)]
  simp [four]

set_option maxHeartbeats 4000000 in
/-- its reference -/
theorem rwords_calls {w : World} {a : Option Addr} {c : Nat} {bs : List (BitVec 8)} (h : Sl u8v w a bs) (hl : bs.length ≤ 1048576) :
    Calls Try.prog 51 #[.slice a bs.length c] w (Ret fun v w' => ∃ a' c', v = .slice a' (wordsF bs).length c' ∧ Own 42 u32v w.heap.size w' a' c' (wordsF bs) ∧ Ext w w') := by
  refine calls_of_vc lok Try.func51 ?_ rfl
  conv => whnf
  refine vcLoop_inv lok (σ := Nat × Int × Option Addr × Nat)
    (fun ⟨i, m, b, d⟩ => [(4, .int .i64 m), (0, .slice a bs.length c), (3, .slice b ((wordsF bs).take i).length d)])
    (fun ⟨i, m, b, d⟩ w2 => i ≤ (bs.length + 3) / 4 ∧ m = ((4 * i : Nat) : Int) ∧ Own 42 u32v w.heap.size w2 b d ((wordsF bs).take i) ∧ Ext w w2) (fun s => (bs.length + 3) / 4 - s.1)
    (0, 0, none, 0) ⟨rfl, rfl, rfl, trivial⟩ ⟨Nat.zero_le _, rfl, Own.nil _ _ _ _, Ext.refl _⟩ ?_
  rintro ⟨i, m, b, d⟩ w2 ⟨hi, hm, ho2, hx2⟩
  conv => whnf
  refine vcCond_split lok rfl (fun h2 => ?_) (fun h2 => ?_)
  rotate_left
  · have h2 := df h2
    obtain rfl : i = (bs.length + 3) / 4 := by omega
    conv => whnf
    have e : (wordsF bs).take ((bs.length + 3) / 4) = wordsF bs := List.take_of_length_le (by rw [wordsF_len]; exact Nat.le_refl _)
    rw [e] at ho2
    exact ⟨b, d, by rw [e], ho2, hx2⟩
  have h2 := dt h2
  have him : i < (bs.length + 3) / 4 := by omega
  conv => whnf
  refine vcLoop_inv lok (σ := Nat × Int × Nat)
    (fun ⟨j, z, n⟩ => [(6, .int .i64 z), (5, .int .u32 n), (4, .int .i64 m), (0, .slice a bs.length c), (3, .slice b ((wordsF bs).take i).length d)])
    (fun ⟨j, z, n⟩ w3 => j ≤ 4 ∧ z = (j : Int) - 1 ∧ n = decN ((four bs i).drop j) ∧ w3 = w2) (fun s => s.1)
    (4, 3, 0) ⟨rfl, rfl, rfl, rfl, rfl, trivial⟩ ⟨Nat.le_refl _, rfl, by rw [List.drop_of_length_le (by rw [four_len]; exact Nat.le_refl _)]; rfl, rfl⟩ ?_
  rintro ⟨j, z, n⟩ w3 ⟨hj, hz, hn, hw3⟩
  subst hw3
  conv => whnf
  refine vcCond_split lok rfl (fun h4 => ?_) (fun h4 => ?_)
  · have h4 := dt h4
    conv => whnf
    refine ⟨by omega, ?_⟩
    conv => whnf
    have ek : ∃ k, j = k + 1 := ⟨j - 1, by omega⟩
    obtain ⟨k, hk⟩ := ek
    subst hk
    have hk4 : k < 4 := by omega
    have efd := four_drop bs i k hk4
    have hdl := decN_lt ((four bs i).drop (k + 1))
    rw [show ((four bs i).drop (k + 1)).length = 3 - k by rw [List.length_drop, four_len]; omega] at hdl
    have hp : 256 ^ (3 - k) ≤ 256 ^ 3 := Nat.pow_le_pow_right (by decide) (by omega)
    have hp3 : (256 : Nat) ^ 3 = 16777216 := by decide
    rw [← hn] at hdl
    refine vcCond_meet (fun y : BitVec 8 => [(7, .int .u8 y.toNat), (6, .int .i64 z), (5, .int .u32 n), (4, .int .i64 m), (0, .slice a bs.length c), (3, .slice b ((wordsF bs).take i).length d)])
      (fun y w4 => w4 = w3 ∧ y = bs.getD (4 * i + k) 255#8) ?_ ?_
    · refine vcCond_split lok rfl (fun h5 => ?_) (fun h5 => ?_)
      · have h5 := dt h5
        conv => whnf
        refine ⟨by omega, ?_⟩
        conv => whnf
        have g1 : 0 ≤ m + z := by omega
        have g2 : m + z < bs.length := by omega
        have g3 := h.ext hx2
        have g4 := g3.at _ g1 g2
        obtain ⟨p, o, ha, hcell⟩ := g4
        refine ⟨p, o, ha, ⟨by omega, by omega⟩, ?_⟩
        conv => whnf
        refine ⟨_, hcell, ?_⟩
        conv => whnf
        have e : (m + z).toNat = 4 * i + k := by omega
        have e2 : bs.getD (4 * i + k) default = bs.getD (4 * i + k) 255#8 := by
          simp [List.getD, List.getElem?_eq_getElem (show 4 * i + k < bs.length by omega)]
        exact ⟨bs.getD (m + z).toNat default, ⟨rfl, rfl, rfl, rfl, rfl, rfl, trivial⟩, rfl, by rw [e, e2]⟩
      · have h5 := df h5
        conv => whnf
        refine ⟨255#8, ⟨rfl, rfl, rfl, rfl, rfl, rfl, trivial⟩, rfl, ?_⟩
        simp [List.getD, List.getElem?_eq_none (show bs.length ≤ 4 * i + k by omega)]
    rintro y w4 ⟨hw4, hy⟩
    subst hw4
    rw [← hy] at efd
    have hyl := y.isLt
    have e8 : decN ((four bs i).drop k) = y.toNat + 256 * n := by rw [efd, hn]; rfl
    conv => whnf
    intro z2 hz2
    have hq : z2 = 256 * (n : Int) := by rw [hz2, wu32]; omega
    subst hq
    conv => whnf
    intro z2 hz2
    have hq : z2 = (y.toNat : Int) := by rw [hz2, wu32]; omega
    subst hq
    conv => whnf
    intro z2 hz2
    have hq : z2 = ((y.toNat + 256 * n : Nat) : Int) := by rw [hz2, wu32]; omega
    subst hq
    conv => whnf
    refine ⟨by omega, ?_⟩
    conv => whnf
    exact ⟨(k, z - 1, y.toNat + 256 * n), ⟨rfl, rfl, rfl, rfl, rfl, trivial⟩, ⟨by omega, by omega, e8.symm, rfl⟩, Nat.lt_succ_self k⟩
  · have h4 := df h4
    have hj0 : j = 0 := by omega
    subst hj0
    have hn2 : n = (wordOf (four bs i)).toNat := by rw [wordOf_nat (four bs i) (by rw [four_len]; exact Nat.le_refl _), hn]; rfl
    subst hn2
    conv => whnf
    have etk := wordsF_take bs i him
    refine ⟨_, _, run_buildN e32.toElem ([wordOf (four bs i)].map u32v) (by simp [u32v, Value.oneCell']) (by simp) w3, ?_⟩
    conv => whnf
    have x3 : Ext w3 (w3.alloc (.cells ([wordOf (four bs i)].map u32v).toArray 42)) := Ext.new _ _
    have hs3 : Sl u32v (w3.alloc (.cells ([wordOf (four bs i)].map u32v).toArray 42)) (some ⟨w3.heap.size, 0, none⟩) [wordOf (four bs i)] := Sl.lit _ _
    have hlt : ((wordsF bs).take i).length ≤ 1048576 := by rw [List.length_take, wordsF_len]; omega
    have g7 := (ho2.ext x3).append (ty := 37) (d := 1) e32.toElem (fun _ => rfl) hs3 (by simp only [List.length_singleton]; omega) (hx2.trans x3).size
    obtain ⟨a4, c4, w4, hr4, ho4, hg4, _⟩ := g7
    refine ⟨_, _, hr4, ?_⟩
    have x4 : Ext w w4 := hg4.extOf (hx2.trans x3) (fun g hg => (ho2.ge g hg).1)
    conv => whnf
    refine ⟨by omega, ?_⟩
    conv => whnf
    exact ⟨(i + 1, m + 4, a4, c4), ⟨rfl, rfl, by rw [etk]; rfl, trivial⟩, ⟨by omega, by omega, by rw [etk]; exact ho4, x4⟩, Nat.sub_succ_lt_self _ _ him⟩

end Go.Proofs.Ytgipackjnncabaa

/- Walks of layer 22: the document's slots: written. -/
set_option linter.unusedVariables false
namespace Go.Proofs.Ytgipackjnncabaa
open Go.Vc Go.RowKit

section
variable {B : Nat} {w w' : World} {rb g gw c n i : Nat} {s t : FS}
set_option maxHeartbeats 4000000 in
/-- Write -/
theorem rswrite_calls (h : RsAt B w rb g gw c n s) (slot chunk : Int) (hch : -9223372036854775808 ≤ chunk ∧ chunk ≤ 9223372036854775807) {ba : Option Addr} {bc : Nat} {b : List (BitVec 8)} (hb : Sl u8v w ba b) (hbl : b.length ≤ 9223372036854775807) (hop : Num s s.ws.length i) (hi : i ≤ 1152921504606846976) :
    Calls Try.prog 135 #[.pointer (some ⟨rb, 0, none⟩), .int .i64 slot, .int .i64 chunk, .slice ba b.length bc] w
      (Ret fun r w' => r = .int .i64 (writeSF s n slot chunk b).2 ∧ RsAt B w' rb g gw c n (writeSF s n slot chunk b).1 ∧ FlMod g gw w w') := by
  have hr := h.room
  have hsm := h.small
  have hlt := h.f.lt
  refine calls_of_vc lok Try.func135 ?_ rfl
  conv => whnf
  refine ⟨_, h.b.cell (i := 0) rfl, ?_⟩
  conv => whnf
  refine ⟨_, h.f.blk.cell (i := 1) rfl, ?_⟩
  conv => whnf
  refine vcCond_split lok rfl (fun k1 => ?_) (fun k1 => ?_)
  · have e : writeSF s n slot chunk b = (s, 7) := by unfold writeSF; rw [check_off k1, if_pos (by decide)]
    rw [e]
    conv => whnf
    exact ⟨rfl, h, Mod.refl _ _⟩
  conv => whnf
  refine Calls.ret (rsbad_calls slot) ?_
  rintro _ w1 ⟨rfl, hw1⟩
  conv => whnf
  subst hw1
  refine vcCond_split lok rfl (fun k2 => ?_) (fun k2 => ?_)
  · have k2 := dt k2
    have e : writeSF s n slot chunk b = (s, 1) := by unfold writeSF; rw [check_bad k1 k2, if_pos (by decide)]
    rw [e]
    conv => whnf
    exact ⟨rfl, h, Mod.refl _ _⟩
  have k2 := df k2
  have h1 := check_ok k1 k2
  have hz := check_zero h1
  have hp := atF_le hz.2 hr
  have hh := headR_ok (n := n) h1
  have ew : writeSF s n slot chunk b = match headW s.ws (atF n slot) with
      | none => (s, 8)
      | some (_, m) =>
        if ¬ (0 ≤ chunk ∧ chunk < 32 ∧ 64 * chunk < m ∧ b.length = lenC m chunk.toNat) then (s, 1)
        else if sealedF s n slot = true then (s, 25)
        else if s.ws.getD (atF n slot + 3 + chunk.toNat) 0#32 = 0#32 then (s, 0)
        else if (progAllF s ((atF n slot + 256 + 16 * chunk.toNat : Nat) : Int) (wordsF b)).2 = 0 then
          if sliceF (progAllF s ((atF n slot + 256 + 16 * chunk.toNat : Nat) : Int) (wordsF b)).1.ws (atF n slot + 256 + 16 * chunk.toNat) (wordsF b).length = wordsF b then
            progF (progAllF s ((atF n slot + 256 + 16 * chunk.toNat : Nat) : Int) (wordsF b)).1 ((atF n slot + 3 + chunk.toNat : Nat) : Int) 0#32
          else ((progAllF s ((atF n slot + 256 + 16 * chunk.toNat : Nat) : Int) (wordsF b)).1, 4)
        else ((progAllF s ((atF n slot + 256 + 16 * chunk.toNat : Nat) : Int) (wordsF b)).1, 7) := by
    unfold writeSF; rw [if_neg (fun q => q h1)]; rfl
  conv => whnf
  refine Calls.ret (rshead_calls h slot) ?_
  rintro _ w2 ⟨rfl, x2⟩
  conv => whnf
  cases hW : headW s.ws (atF n slot) with
  | none =>
    rw [hW] at ew hh
    have e1 := congrArg Prod.fst hh
    have e2 := congrArg (fun x => x.2.1) hh
    have e3 := congrArg (fun x => x.2.2) hh
    dsimp only at ew e1 e2 e3
    rw [e1, e2, e3]
    rw [ew]
    refine vcCond_true lok (rfl) ?_
    conv => whnf
    exact ⟨rfl, h.ext x2, Mod.ofExt _ x2⟩
  | some vm =>
  obtain ⟨v, m⟩ := vm
  have hcan := (headW_size hW).1
  have hm0 : 1 ≤ m ∧ m ≤ 2048 := by have := hcan.2.2; simp only at this; omega
  rw [hW] at ew hh
  have e1 := congrArg Prod.fst hh
  have e2 := congrArg (fun x => x.2.1) hh
  have e3 := congrArg (fun x => x.2.2) hh
  dsimp only at ew e1 e2 e3
  rw [e1, e2, e3]
  clear hh hcan hW e1 e2 e3
  refine vcCond_false lok (rfl) ?_
  conv => whnf
  have gL : ∃ L : Int, L = if (0 : Int) ≤ chunk ∧ chunk < 32 ∧ 64 * chunk < m then (lenC m chunk.toNat : Int) else 0 := ⟨_, rfl⟩
  obtain ⟨L, hL⟩ := gL
  have hlen1 : 64 * chunk < m → 0 ≤ chunk → 1 ≤ lenC m chunk.toNat := fun q q2 => by unfold lenC; omega
  have gL2 := fun (w : World) => rlong_calls (w := w) m hm0.2 chunk hch
  rw [← hL] at gL2
  refine vcReg_meet lok (fun β : Bool => [(45, .bool β)]) (fun β w' => w' = w2 ∧ β = !decide (0 ≤ chunk ∧ chunk < 32 ∧ 64 * chunk < m ∧ b.length = lenC m chunk.toNat)) [45] (fun _ => rfl) rfl ?_ ?_
  · conv => whnf
    refine Calls.ret (gL2 _) ?_
    rintro _ w3 ⟨rfl, hw3⟩
    conv => whnf
    subst hw3
    refine bcase (fun k1 => ?_) (fun k1 => ?_)
    · have k1 := dt k1
      conv => whnf
      refine ⟨_, ⟨rfl, trivial⟩, rfl, ?_⟩
      rw [decide_eq_false (fun q => by
        rw [if_pos ⟨q.1, q.2.1, q.2.2.1⟩] at hL
        have := hlen1 q.2.2.1 q.1
        omega)]
      rfl
    have k1 := df k1
    have hin : 0 ≤ chunk ∧ chunk < 32 ∧ 64 * chunk < m := by
      by_cases q : 0 ≤ chunk ∧ chunk < 32 ∧ 64 * chunk < m
      · exact q
      · rw [if_neg q] at hL; exact absurd hL k1
    rw [if_pos hin] at hL
    conv => whnf
    refine Calls.ret (gL2 _) ?_
    rintro _ w3 ⟨rfl, hw3⟩
    conv => whnf
    subst hw3
    refine ⟨_, ⟨rfl, trivial⟩, rfl, ?_⟩
    show (!decide (((b.length : Nat) : Int) = L)) = _
    congr 1
    rw [decide_eq_decide, hL]
    exact ⟨fun e => ⟨hin.1, hin.2.1, hin.2.2, by omega⟩, fun q => by have := q.2.2.2; omega⟩
  rintro β w3 ⟨hw3, hβ⟩
  subst hw3
  clear gL2 hL hlen1
  conv => whnf
  refine vcCond_split lok rfl (fun h2 => ?_) (fun h2 => ?_)
  · rw [hβ] at h2
    have h2 : ¬ (0 ≤ chunk ∧ chunk < 32 ∧ 64 * chunk < m ∧ b.length = lenC m chunk.toNat) := fun q => by rw [decide_eq_true q] at h2; cases h2
    rw [if_pos h2] at ew
    rw [ew]
    conv => whnf
    exact ⟨rfl, h.ext x2, Mod.ofExt _ x2⟩
  rw [hβ] at h2
  have h2 : 0 ≤ chunk ∧ chunk < 32 ∧ 64 * chunk < m ∧ b.length = lenC m chunk.toNat := by
    by_cases q : 0 ≤ chunk ∧ chunk < 32 ∧ 64 * chunk < m ∧ b.length = lenC m chunk.toNat
    · exact q
    · rw [decide_eq_false q] at h2; cases h2
  clear hβ
  rw [if_neg (fun q => q h2)] at ew
  obtain ⟨k, rfl⟩ := Int.eq_ofNat_of_zero_le h2.1
  rw [Int.toNat_natCast] at ew h2
  obtain ⟨_, hk32, hkm, hblen⟩ := h2
  have hk32 : k < 32 := by omega
  have hlc := lenC_le m k
  have hwl : (wordsF b).length ≤ 16 := by rw [wordsF_len]; omega
  conv => whnf
  refine Calls.ret (rssealed_calls (h.ext x2) slot) ?_
  rintro _ w4 ⟨rfl, x4⟩
  conv => whnf
  have x14 := x2.trans x4
  refine vcCond_split lok rfl (fun h3 => ?_) (fun h3 => ?_)
  · rw [if_pos h3] at ew
    rw [ew]
    conv => whnf
    exact ⟨rfl, h.ext x14, Mod.ofExt _ x14⟩
  rw [h3, if_neg Bool.false_ne_true] at ew
  have h4 := h.ext x14
  have gat : ∃ p, p = atF n slot := ⟨_, rfl⟩
  obtain ⟨p, hpp⟩ := gat
  rw [← hpp] at ew hp
  conv => whnf
  refine Calls.ret (rsplace_calls h4 slot hz.2) ?_
  rintro _ w5 ⟨rfl, hw5⟩
  conv => whnf
  subst hw5
  rw [← hpp]
  refine ⟨by omega, ?_⟩
  conv => whnf
  refine ⟨by omega, ?_⟩
  conv => whnf
  rw [show (p : Int) + 3 + (k : Int) = ((p + 3 + k : Nat) : Int) by omega]
  refine ⟨_, h4.b.cell (i := 0) rfl, ?_⟩
  conv => whnf
  refine ⟨_, h4.f.blk.cell (i := 0) rfl, ?_⟩
  conv => whnf
  have g32 := sl_get (h4.f.own.sl) (((p + 3 + k : Nat) : Int)) (p + 3 + k) (by omega) (by omega)
  obtain ⟨p32, o32, ha32, hb32, hcell32⟩ := g32
  refine ⟨p32, o32, ha32, hb32, ?_⟩
  conv => whnf
  refine ⟨_, hcell32, ?_⟩
  conv => whnf
  refine vcCond_split lok rfl (fun h5 => ?_) (fun h5 => ?_)
  · have h5 := num_zero.1 (dt h5)
    rw [if_pos h5] at ew
    rw [ew]
    conv => whnf
    exact ⟨rfl, h4, Mod.ofExt _ x14⟩
  have h5 := fun e => df h5 (num_zero.2 e)
  rw [if_neg h5] at ew
  conv => whnf
  refine Calls.ret (rwords_calls (hb.ext x14) (by omega)) ?_
  rintro _ w6 ⟨a6, c6, rfl, ho6, x6⟩
  conv => whnf
  have x16 := x14.trans x6
  have z14 := x14.size
  have h6 := h.ext x16
  refine Calls.ret (rsplace_calls h6 slot hz.2) ?_
  rintro _ w7 ⟨rfl, hw7⟩
  conv => whnf
  subst hw7
  rw [← hpp]
  refine ⟨by omega, ?_⟩
  conv => whnf
  refine ⟨by omega, ?_⟩
  conv => whnf
  refine ⟨by omega, ?_⟩
  conv => whnf
  have ga : ∃ a, a = p + 256 + 16 * k := ⟨_, rfl⟩
  obtain ⟨a, ha⟩ := ga
  rw [← ha] at ew
  rw [show (p : Int) + 256 + 16 * (k : Int) = (a : Int) by omega]
  have gxs : ∃ xs, xs = wordsF b := ⟨_, rfl⟩
  obtain ⟨xs, hxs⟩ := gxs
  rw [← hxs] at ew ho6 hwl ⊢
  have hpa := progAll_cases xs s a hz.1 (by omega)
  have nums := Num.all xs s i ((a : Nat) : Int) hop
  have gA : ∃ A, A = progAllF s ((a : Nat) : Int) xs := ⟨_, rfl⟩
  obtain ⟨A, hA⟩ := gA
  rw [← hA] at hpa nums ew
  conv => whnf
  refine vcLoop_inv lok (σ := Nat)
    (fun k' => [(15, .int .i64 k'), (14, .int .i64 a), (13, .slice a6 xs.length c6), (12, .int .i64 (p + 3 + k : Nat)), (0, .pointer (some ⟨rb, 0, none⟩)), (1, .int .i64 slot)])
    (fun k' w' => k' ≤ xs.length ∧ ∃ sk, RsAt B w' rb g gw c n sk ∧ Num sk s.ws.length (i + k') ∧ FlMod g gw w7 w' ∧ A = progAllF sk (a + k' : Nat) (xs.drop k')) (fun k' => xs.length - k')
    0 ⟨rfl, rfl, rfl, rfl, rfl, rfl, trivial⟩ ⟨Nat.zero_le _, s, h6, hop, Mod.refl _ _, by rw [Nat.add_zero, List.drop_zero]; exact hA⟩ ?_
  rintro j w8 ⟨hj, s8, h8, op8, m8, e8⟩
  have hl8 := op8.len
  have ho8 := m8.keepOwn ho6 (fun q hq e => by
      have := (ho6.ge q hq).1
      rcases e with e | e <;> omega)
  conv => whnf
  refine vcCond_split lok rfl (fun h9 => ?_) (fun h9 => ?_)
  · have h9 := dt h9
    conv => whnf
    have hjl : j < xs.length := by omega
    have edr : xs.drop j = xs.getD j 0#32 :: xs.drop (j + 1) := by
      rw [List.drop_eq_getElem_cons hjl]
      simp [List.getD, List.getElem?_eq_getElem hjl]
    rw [edr, progAllF] at e8
    refine vcDraw_meet lok mixed (fun w' => w' = w8.drew) [] [0, 1, 2, 3, 4, 5, 6, 7, 8, 9, 10, 11, 12] (fun β : Bool => [(93, .bool β)])
      (fun β w' => β = !decide ((progF s8 (a + j : Nat) (xs.getD j 0#32)).2 = 0) ∧ RsAt B w' rb g gw c n (progF s8 (a + j : Nat) (xs.getD j 0#32)).1 ∧ FlMod g gw w7 w') [93] (fun _ => rfl) rfl (by kernel_rfl) (fun w9 hw9 => ⟨hw9, ?_⟩) ?_
    · have x9 : Ext w8 w9 := hw9 ▸ Ext.drew w8
      have h9 := h8.ext x9
      have ho9 := ho8.ext x9
      conv => whnf
      refine ⟨_, fun w' hw' => by rw [hw', ← hw9]; exact h9.b.cell (i := 0) rfl, ?_⟩
      conv => whnf
      refine ⟨by omega, ?_⟩
      conv => whnf
      have g48 := sl_get (ho9.sl) ((j : Int)) (j) (by omega) (by omega)
      obtain ⟨p48, o48, ha48, hb48, hcell48⟩ := g48
      refine ⟨p48, o48, ha48, hb48, ?_⟩
      conv => whnf
      refine ⟨_, fun w' hw' => by rw [hw', ← hw9]; exact hcell48, ?_⟩
      conv => whnf
      rw [show (a : Int) + (j : Int) = ((a + j : Nat) : Int) by omega]
      refine Calls.ret (rprog_calls h9.f ((a + j : Nat) : Int) (xs.getD j 0#32) (by omega) (op8.ok (by omega))) ?_
      rintro _ w10 ⟨rfl, f10, m10⟩
      conv => whnf
      exact ⟨_, ⟨rfl, trivial⟩, rfl, h9.next f10 m10 (progF_le s8 _ _).len, (m8.trans (Mod.ofExt _ x9)).trans m10⟩
    rintro β w9 ⟨hβ, h9, m9⟩
    conv => whnf
    refine vcCond_split lok rfl (fun k3 => ?_) (fun k3 => ?_)
    · rw [hβ] at k3
      have k3 : ¬ (progF s8 ((a + j : Nat) : Int) (xs.getD j 0#32)).2 = 0 := fun q => by rw [decide_eq_true q] at k3; cases k3
      rw [if_neg k3] at e8
      have hA2 : ¬ A.2 = 0 := by
        rw [e8]
        have hcode := progF_code (s := s8) (i := ((a + j : Nat) : Int)) (x := xs.getD j 0#32) (by omega) (by omega)
        show ¬ ((7 : Int) = 0)
        decide
      rw [if_neg hA2, e8] at ew
      rw [ew]
      conv => whnf
      exact ⟨rfl, h9, (Mod.ofExt _ x16).trans m9⟩
    · rw [hβ] at k3
      have k3 : (progF s8 ((a + j : Nat) : Int) (xs.getD j 0#32)).2 = 0 := by
        by_cases q : (progF s8 ((a + j : Nat) : Int) (xs.getD j 0#32)).2 = 0
        · exact q
        · rw [decide_eq_false q] at k3; cases k3
      rw [if_pos k3] at e8
      conv => whnf
      refine ⟨by omega, ?_⟩
      conv => whnf
      exact ⟨j + 1, ⟨rfl, rfl, rfl, rfl, rfl, rfl, trivial⟩, ⟨by omega, _, h9, (op8.prog _ _).up (by omega), m9, by rw [show ((a + (j + 1) : Nat) : Int) = ((a + j : Nat) : Int) + 1 by omega]; exact e8⟩, by omega⟩
  have h9 := df h9
  conv => whnf
  have hjx : j = xs.length := by omega
  rw [List.drop_of_length_le (by omega), progAllF] at e8
  rw [e8, if_pos rfl] at ew
  dsimp only at ew
  clear hpa
  have hle := h8.f.own.le
  have m18 := (Mod.ofExt (fun k => k = g ∨ k = gw) x16).trans m8
  refine ⟨_, h8.b.cell (i := 0) rfl, ?_⟩
  conv => whnf
  refine ⟨_, h8.f.blk.cell (i := 0) rfl, ?_⟩
  conv => whnf
  refine ⟨by omega, ?_⟩
  conv => whnf
  have hmid := Sl.mid h8.f.own.sl a (a + xs.length) c (by omega) (by omega) hle.1
  rw [show a + xs.length - a = xs.length by omega] at hmid
  refine ⟨⟨by omega, by omega, by omega⟩, ?_⟩
  intro b2 hb2
  have hb2 : b2 = if c = a then (some ⟨gw, 0, none⟩ : Option Addr) else (some ⟨gw, 0, none⟩ : Option Addr).map (·.add (a * 1)) := hb2
  rw [← hb2] at hmid
  clear hb2
  have gsl : ∃ ys, ys = sliceF s8.ws a xs.length ∧ ys.length = xs.length := ⟨_, rfl, by unfold sliceF; rw [List.length_take, List.length_drop]; omega⟩
  obtain ⟨ys, hys, hyl⟩ := gsl
  have hmid : Sl u32v w8 b2 ys := by rw [hys]; exact hmid
  rw [← hys] at ew
  rw [show ((a : Int) + (xs.length : Int)).toNat - (a : Int).toNat = ys.length by omega]
  conv => whnf
  refine Calls.ret (same_calls hmid ho8.sl (by omega)) ?_
  rintro _ w10 ⟨rfl, x10⟩
  conv => whnf
  have h10 := h8.ext x10
  refine vcCond_split lok rfl (fun h11 => ?_) (fun h11 => ?_)
  · have h11 : ¬ ys = xs := fun q => by rw [decide_eq_true q] at h11; cases h11
    rw [if_neg h11] at ew
    rw [ew]
    conv => whnf
    exact ⟨rfl, h10, m18.trans (Mod.ofExt _ x10)⟩
  have h11 : ys = xs := by
    by_cases q : ys = xs
    · exact q
    · rw [decide_eq_false q] at h11; cases h11
  rw [if_pos h11] at ew
  rw [ew]
  conv => whnf
  refine ⟨_, h10.b.cell (i := 0) rfl, ?_⟩
  conv => whnf
  refine Calls.ret (rprog_calls h10.f ((p + 3 + k : Nat) : Int) 0#32 (by omega) (op8.ok (by omega))) ?_
  rintro _ w12 ⟨rfl, f12, m12⟩
  conv => whnf
  exact ⟨rfl, h10.next f12 m12 (progF_le s8 _ _).len, (m18.trans (Mod.ofExt _ x10)).trans m12⟩
end
end Go.Proofs.Ytgipackjnncabaa

/- Walks of layer 22: the document's slots: bytes, opened. -/
set_option linter.unusedVariables false
namespace Go.Proofs.Ytgipackjnncabaa
open Go.Vc Go.RowKit

theorem bytesF_append (a b : List (BitVec 32)) : bytesF (a ++ b) = bytesF a ++ bytesF b := by unfold bytesF; exact List.flatMap_append
theorem sliceF_len (ws : List (BitVec 32)) (p k : Nat) (h : p + k ≤ ws.length) : (sliceF ws p k).length = k := by unfold sliceF; rw [List.length_take, List.length_drop]; omega
theorem slice_split (ws : List (BitVec 32)) (p k j : Nat) : sliceF ws p (k + j) = sliceF ws p k ++ sliceF ws (p + k) j := by
  unfold sliceF
  rw [List.take_add, List.drop_drop]
theorem bytes_more (ws : List (BitVec 32)) (p k j m : Nat) (hm : m ≤ 4 * k) (hl : p + k ≤ ws.length) : (bytesF (sliceF ws p (k + j))).take m = (bytesF (sliceF ws p k)).take m := by
  rw [slice_split, bytesF_append, List.take_append_of_le_length (by rw [bytesF_len, sliceF_len _ _ _ hl]; exact hm)]
section
variable {B : Nat} {w w' : World} {rb g gw c n i : Nat} {s t : FS}
theorem whole_check {slot : Int} (q : (wholeSF s n slot).2 = 0) : checkF s slot = 0 := by
  by_cases q2 : checkF s slot = 0
  · exact q2
  · unfold wholeSF at q
    rw [if_pos q2] at q
    exact absurd q q2
theorem whole_headR {slot : Int} (q : (wholeSF s n slot).2 = 0) : (headR s n slot).2.1 = (wholeSF s n slot).1 := by
  have hc := whole_check q
  rw [whole_head hc] at q ⊢
  split at q
  · rename_i h1
    rw [if_pos h1]
    split at q
    · rename_i h2
      rw [if_pos h2]
    · cases q
  · cases q

set_option maxHeartbeats 2000000 in
/-- Bytes -/
theorem rsbytes_calls (h : RsAt B w rb g gw c n s) (slot : Int) : Calls Try.prog 138 #[.pointer (some ⟨rb, 0, none⟩), .int .i64 slot] w
    (Ret fun r w' => ∃ a c, r = .tuple #[.slice a (bytesSF s n slot).1.length c, .int .i64 (bytesSF s n slot).2] ∧ Sl u8v w' a (bytesSF s n slot).1 ∧ Ext w w') := by
  unfold bytesSF
  have hm := headR_size s n slot
  have hsm := h.small
  have hlt := h.f.lt
  refine calls_of_vc lok Try.func138 ?_ rfl
  conv => whnf
  refine Calls.ret (rswhole_calls h slot) ?_
  rintro _ w1 ⟨rfl, x1⟩
  conv => whnf
  refine vcCond_split lok rfl (fun h1 => ?_) (fun h1 => ?_)
  · have h1 := ne_true h1
    rw [if_neg h1]
    conv => whnf
    exact ⟨none, 0, rfl, .inl rfl, x1⟩
  have h1 := ne_false h1
  rw [if_pos h1]
  have hz := check_zero (whole_check h1)
  have eH := whole_headR h1
  rw [eH] at hm
  have hpl := atF_le hz.2 h.room
  have gE : ∃ m, m = (wholeSF s n slot).1 := ⟨_, rfl⟩
  obtain ⟨m, hE⟩ := gE
  rw [← hE] at hm eH ⊢
  clear hE h1
  conv => whnf
  refine Calls.ret (rshead_calls (h.ext x1) slot) ?_
  rintro _ w2 ⟨rfl, x2⟩
  conv => whnf
  rw [eH]
  have x12 := x1.trans x2
  have h2 := h.ext x12
  refine Calls.ret (rsplace_calls h2 slot hz.2) ?_
  rintro _ w3 ⟨rfl, hw3⟩
  conv => whnf
  subst hw3
  have gp : ∃ p, p = atF n slot + 256 ∧ p + 512 ≤ s.ws.length := ⟨_, rfl, by omega⟩
  obtain ⟨p, hp, hp5⟩ := gp
  rw [← hp]
  refine ⟨by omega, ?_⟩
  conv => whnf
  rw [show ((atF n slot : Nat) : Int) + 256 = (p : Int) by omega]
  refine ⟨_, h2.b.cell (i := 0) rfl, ?_⟩
  conv => whnf
  refine ⟨_, h2.f.blk.cell (i := 0) rfl, ?_⟩
  conv => whnf
  refine ⟨by omega, ?_⟩
  conv => whnf
  have hle := h2.f.own.le
  have hmid := Sl.mid h2.f.own.sl p (p + 512) c (by omega) (by omega) hle.1
  rw [show p + 512 - p = 512 by omega] at hmid
  refine ⟨⟨by omega, by omega, by omega⟩, ?_⟩
  intro b2 hb2
  have hb2 : b2 = if c = p then (some ⟨gw, 0, none⟩ : Option Addr) else (some ⟨gw, 0, none⟩ : Option Addr).map (·.add (p * 1)) := hb2
  rw [← hb2] at hmid
  clear hb2
  have hyl : (sliceF s.ws p 512).length = 512 := sliceF_len _ _ _ hp5
  have e5 := bytes_more s.ws p ((m + 3) / 4) (512 - (m + 3) / 4) m (by omega) (by omega)
  rw [show (m + 3) / 4 + (512 - (m + 3) / 4) = 512 by omega] at e5
  rw [← e5]
  clear e5
  have hmid : Sl u32v w3 b2 (sliceF s.ws p 512) := hmid
  have gsl : ∃ ys, ys = sliceF s.ws p 512 := ⟨_, rfl⟩
  obtain ⟨ys, hys⟩ := gsl
  rw [← hys] at hmid hyl ⊢
  rw [show (((p : Nat) : Int) + 512).toNat - ((p : Nat) : Int).toNat = ys.length by omega]
  conv => whnf
  refine Calls.ret (rbytes_calls hmid (by omega)) ?_
  rintro _ w4 ⟨a4, c4, rfl, ho4, x4⟩
  conv => whnf
  have hbl := bytesF_len ys
  have hc4 := ho4.le
  refine ⟨⟨by omega, by omega⟩, ?_⟩
  conv => whnf
  refine ⟨a4, c4, ?_, ho4.sl.take m, x12.trans x4⟩
  rw [Int.toNat_natCast]
  show Value.tuple #[.slice a4 m c4, .int .i64 0] = Value.tuple #[.slice a4 ((bytesF ys).take m).length c4, .int .i64 0]
  rw [List.length_take, Nat.min_eq_left (by omega)]

/-- Open -/
theorem rsopen_calls (f : FlAt 81 B w g gw c s) (hl : s.ws.length ≤ 65536) (n : Int) :
    Calls Try.prog 73 #[.pointer (some ⟨g, 0, none⟩), .int .i64 n] w (Ret fun r w' => (¬ (0 ≤ n ∧ 256 * (n + 6) ≤ s.ws.length) ∧ (∃ rb, r = .tuple #[.pointer (some ⟨rb, 0, none⟩), .int .i64 10]) ∧ Ext w w') ∨
      (∃ m : Nat, n = m ∧ 256 * (m + 6) ≤ s.ws.length ∧ ∃ rb, r = .tuple #[.pointer (some ⟨rb, 0, none⟩), .int .i64 0] ∧ w.heap.size ≤ rb ∧ rb < w'.heap.size ∧ RsAt B w' rb g gw c m s ∧ Ext w w')) := by
  refine calls_of_vc lok Try.func73 ?_ rfl
  conv => whnf
  refine vcReg_meet lok (fun β : Bool => [(18, .bool β)]) (fun β w' => w' = w ∧ β = !decide (0 ≤ n ∧ 256 * (n + 6) ≤ s.ws.length)) [18] (fun _ => rfl) rfl ?_ ?_
  · conv => whnf
    refine bcase (fun k1 => ?_) (fun k1 => ?_)
    · have k1 := dt k1
      conv => whnf
      exact ⟨_, ⟨rfl, trivial⟩, rfl, by rw [decide_eq_false (by omega)]; rfl⟩
    have k1 := df k1
    conv => whnf
    refine ⟨_, f.blk.cell (i := 0) rfl, ?_⟩
    conv => whnf
    refine ⟨by decide, ?_⟩
    intro z hz
    have hz20 : z = ((s.ws.length / 256 : Nat) : Int) := by rw [hz]; exact quo256 _ (by omega)
    clear hz
    subst hz20
    conv => whnf
    refine ⟨by omega, ?_⟩
    conv => whnf
    refine ⟨_, ⟨rfl, trivial⟩, rfl, ?_⟩
    by_cases k2 : 256 * (n + 6) ≤ s.ws.length
    · rw [decide_eq_false (by omega), decide_eq_true ⟨by omega, k2⟩]; rfl
    · rw [decide_eq_true (by omega), decide_eq_false (fun q => k2 q.2)]; rfl
  rintro β w2 ⟨hw2, hβ⟩
  subst hw2
  conv => whnf
  refine vcCond_split lok rfl (fun h2 => ?_) (fun h2 => ?_)
  · subst h2
    conv => whnf
    refine ⟨_, fun w => run_build w 184 _ _ (show Try.prog.built 184 [(0, .pointer (some ⟨g, 0, none⟩))] = some #[.pointer (some ⟨g, 0, none⟩), .int .i64 0] by kernel_rfl), ?_⟩
    conv => whnf
    intro w3 hw3
    have x3 : Ext w2 w3 := by rw [hw3]; exact Ext.new _ _
    exact .inl ⟨(fun q => by rw [decide_eq_true q] at hβ; cases hβ), ⟨_, rfl⟩, x3⟩
  subst h2
  have hn : 0 ≤ n ∧ 256 * (n + 6) ≤ s.ws.length := by
    by_cases q : 0 ≤ n ∧ 256 * (n + 6) ≤ s.ws.length
    · exact q
    · rw [decide_eq_false q] at hβ; cases hβ
  clear hβ
  obtain ⟨m, rfl⟩ := Int.eq_ofNat_of_zero_le hn.1
  have hlt := f.lt
  conv => whnf
  refine ⟨_, fun w => run_build w 184 _ _ (show Try.prog.built 184 [(0, .pointer (some ⟨g, 0, none⟩)), (1, .int .i64 m)] = some #[.pointer (some ⟨g, 0, none⟩), .int .i64 m] by kernel_rfl), ?_⟩
  conv => whnf
  intro w3 hw3
  have hb3 : Blk w3 w2.heap.size 184 (sC g m) := by rw [hw3]; exact Blk.new w2 184 _
  have x3 : Ext w2 w3 := by rw [hw3]; exact Ext.new _ _
  clear hw3
  exact .inr ⟨m, rfl, by omega, _, rfl, Nat.le_refl _, hb3.lt, ⟨f.ext x3, hb3, by omega, by omega, by omega, hl⟩, x3⟩
end
end Go.Proofs.Ytgipackjnncabaa

/- The law SlotsCrashes, walked. -/
set_option linter.unusedVariables false
namespace Go.Proofs.Ytgipackjnncabaa
open Go.Vc Go.RowKit

/-- a pair of words -/
def pairC (x : BitVec 32 × BitVec 32) : List Value := [u32v x.1, u32v x.2]
theorem fit_pair {w : World} {es : List Value} (h : Fit w (.arr 2 1 (.int .u32)) es) : ∃ x : BitVec 32 × BitVec 32, es = pairC x ∧ True := by
  obtain ⟨h1, h2⟩ := h
  match es, h1 with
  | [v1, v2], _ =>
    obtain ⟨n1, e1, k1⟩ := h2 0 (by decide)
    obtain ⟨n2, e2, k2⟩ := h2 1 (by decide)
    have e1 : [v1] = [Value.int .u32 n1] := e1
    have e2 : [v2] = [Value.int .u32 n2] := e2
    obtain ⟨x, hx⟩ := wf_u32 k1
    obtain ⟨m, hm⟩ := wf_u32 k2
    injection e1 with e1
    injection e2 with e2
    exact ⟨(x, m), by rw [e1, e2, hx, hm]; rfl, trivial⟩
theorem cut_pos (s : FS) (a : Int) (ha : 0 ≤ a) (m : BitVec 32) : cutF s a m = ({ s with left := a, mask := m }, 0) := by unfold cutF; rw [if_neg (by omega)]
theorem have_sub {ws vs : List (BitVec 32)} {p m : Nat} (h : ∀ j, j < 32 → ws.getD (p + 3 + j) 0#32 = 0#32 → vs.getD (p + 3 + j) 0#32 = 0#32) : haveB vs p m 32 &&& haveB ws p m 32 = haveB ws p m 32 := by
  apply BitVec.eq_of_getLsbD_eq
  intro i hi
  rw [BitVec.getLsbD_and, haveB_bit vs p m 32 i (Nat.le_refl _) hi, haveB_bit ws p m 32 i (Nat.le_refl _) hi]
  cases e : bitB ws p m i with
  | false => simp
  | true =>
    have q := of_decide_eq_true e
    have : bitB vs p m i = true := decide_eq_true ⟨q.1, h i hi q.2⟩
    rw [this]
    simp

set_option maxRecDepth 100000 in
set_option maxHeartbeats 8000000 in
theorem slotsCrashes_walk {w : World} {ba oa : Option Addr} {bc oc : Nat} {bs : List (BitVec 8)} {cuts : List (BitVec 32 × BitVec 32)} (hbs : Sl u8v w ba bs) (hbl : bs.length ≤ 9223372036854775807) (hcu : SlN 2 pairC w oa cuts) (hcl : cuts.length ≤ 9223372036854775807) (sz : Nat) (hsz : sz ≤ 65535) :
    Calls Try.prog 35 #[.slice ba bs.length bc, .int .u16 sz, .slice oa cuts.length oc] w (Law w) := by
  refine calls_of_vc lok Try.func35 ?_ rfl
  conv => whnf
  intro z hz
  have hz2 : z = (sz : Int) := by rw [hz]; exact wi64 (by omega)
  clear hz
  subst hz2
  conv => whnf
  refine ⟨by decide, ?_⟩
  intro z hz
  have hz3 : z = ((sz % 600 : Nat) : Int) := by rw [hz]; exact rem_nat sz 600
  clear hz
  subst hz3
  conv => whnf
  refine ⟨by omega, ?_⟩
  conv => whnf
  have gn : ∃ n : Nat, n = 1 + sz % 600 ∧ 1 ≤ n ∧ n ≤ 600 := ⟨_, rfl, by omega, by omega⟩
  obtain ⟨n, hn, hn1, hn2⟩ := gn
  rw [show (1 : Int) + ((sz % 600 : Nat) : Int) = (n : Int) by omega]
  conv => whnf
  refine Calls.ret (image_calls hbs hbl n (by omega)) ?_
  rintro _ w1 ⟨aa, ac, all, rfl, hal, hoa, x1⟩
  conv => whnf
  refine Calls.ret (new_calls 6) ?_
  rintro _ w2 hp
  conv => whnf
  rcases hp with ⟨hno, _, _⟩ | ⟨_, g, gw, fc, rfl, f2, x2⟩
  · exact absurd hno (by decide)
  replace f2 : FlAt 181 w1.heap.size w2 g gw fc k22S := f2
  have l0 : k22S.ws.length = 1536 := List.length_replicate
  have n0 : Num k22S 1536 0 := ⟨l0, ⟨Int.le_refl _, Int.le_refl _⟩, by show (-1 : Int) ≤ _; decide⟩
  have so : k22S.off = false := rfl
  have sl : k22S.left < 0 := by show (-1 : Int) < 0; decide
  generalize k22S = s0 at *
  have z1 := x1.size
  have f2lo := f2.lo
  have f2lt := f2.lt
  conv => whnf
  refine Calls.ret (sopen_calls f2 (by omega) 0) ?_
  rintro _ w3 hp
  conv => whnf
  rcases hp with ⟨hno, _, _⟩ | ⟨m, hm, _, sb, rfl, hsb, S3, x3⟩
  · exact absurd ⟨by decide, by rw [l0]; decide⟩ hno
  have hm0 : m = 0 := by omega
  subst hm0
  clear hm
  have hbad : ¬ badF 0 := by decide
  have hat : atF 0 0 = 0 := rfl
  have hcan : canN 9#32 (n : Int) := ⟨by decide, by decide, by omega, by omega⟩
  have gb := begin_cases (n := 0) (slot := 0) (v := 9#32) (m := n) so hbad hcan (by rw [hat, l0]; decide)
  rcases gb with ⟨t, e1, e2, e3, e4⟩ | ⟨_, _, _, q, _⟩
  rotate_left
  · omega
  have tn := begin_num (at_ := 0) (slot := 0) (v := 9#32) (m := n) n0
  rw [e1] at tn
  replace tn : Num t 1536 17 := tn
  rw [Int.toNat_natCast, ← hal] at e2
  have timg := e2.img (all := all) (by rw [hat, tn.len]; decide)
  have x03 := x1.trans (x2.trans x3)
  have S3' : SlAt w.heap.size w3 sb g gw fc 0 s0 := ⟨S3.f.base z1, S3.b, S3.n1, S3.n2, S3.room, S3.small⟩
  have gbeg := sbegin_calls S3' 0 9#32 n (by rw [l0]; exact n0) (by decide)
  rw [e1] at gbeg
  have hoa3 := (hoa.ext x2).ext x3
  have nS : ∀ {w' w''}, FlMod g gw w' w'' → Own 5 u8v w.heap.size w' aa ac all → Own 5 u8v w.heap.size w'' aa ac all := fun {w' w''} m h => m.keepOwn h fun k hk e => by
    have := (hoa.ge k hk).2
    rcases e with e | e <;> omega
  conv => whnf
  refine vcReg_meet lok (fun β : Bool => [(47, .bool β)]) (fun β w' => β = false ∧ SlAt w.heap.size w' sb g gw fc 0 t ∧ FlMod g gw w3 w') [47] (fun _ => rfl) rfl ?_ ?_
  · conv => whnf
    refine Calls.ret (gbeg) ?_
    rintro _ w4 ⟨rfl, S4, m4⟩
    conv => whnf
    exact ⟨_, ⟨rfl, trivial⟩, rfl, S4, m4⟩
  rintro β w4 ⟨rfl, S4, m4⟩
  have hoa4 := nS m4 hoa3
  have x04 := FlMod.above m4 x03 (by omega) (by omega)
  clear gbeg e1 e2 S3 S3' hoa3 e4 x03 m4 so sl n0
  conv => whnf
  refine vcCond_false lok (rfl) ?_
  conv => whnf
  refine ⟨by omega, ?_⟩
  conv => whnf
  refine ⟨by decide, ?_⟩
  intro z hz
  have hz16 : z = (((n + 63) / 64 : Nat) : Int) := by rw [hz]; exact (congrArg IntKind.i64.wrap (quo_nat (n + 63) 64)).trans (wi64 (by omega))
  clear hz
  subst hz16
  conv => whnf
  have gmany : ∃ many : Nat, many = (n + 63) / 64 ∧ 1 ≤ many ∧ many ≤ 10 ∧ n ≤ 64 * many ∧ ∀ k, k < many → 64 * k < n := ⟨_, rfl, by omega, by omega, by omega, fun k hk => by omega⟩
  obtain ⟨many, hmany, hm1, hm2, hm3, hm4⟩ := gmany
  rw [← hmany]
  have hac := hoa.le
  have hcm : maxLen ≤ 9223372036854775807 := by decide
  refine vcLoop_inv lok (σ := Nat)
    (fun i => [(13, .int .i64 i), (10, .pointer (some ⟨sb, 0, none⟩)), (8, .slice aa n ac), (12, .int .i64 many), (2, .slice oa cuts.length oc), (9, .pointer (some ⟨g, 0, none⟩))])
    (fun i w' => i ≤ 30 ∧ ∃ s, SlAt w.heap.size w' sb g gw fc 0 s ∧ Num s 1536 (200 * i + 17) ∧ s.off = false ∧ Img s.ws (atF 0 0) 9#32 all ∧ Own 5 u8v w.heap.size w' aa ac all ∧ Ext w w') (fun i => 30 - i)
    0 ⟨rfl, rfl, rfl, rfl, rfl, rfl, trivial⟩ ⟨Nat.zero_le _, t, S4, tn, e3, timg, hoa4, x04⟩ ?_
  clear S4 tn e3 timg hoa4 x04
  rintro i w5 ⟨hi30, s, S5, sn, so, simg, ho5, x5⟩
  have slen := sn.len
  conv => whnf
  refine vcReg_meet lok (fun β : Bool => [(58, .bool β)]) (fun β w' => w' = w5 ∧ β = decide (i < cuts.length ∧ i < 30)) [58] (fun _ => rfl) rfl ?_ ?_
  · conv => whnf
    refine bcase (fun h1 => ?_) (fun h1 => ?_)
    · have h1 := dt h1
      conv => whnf
      refine ⟨_, ⟨rfl, trivial⟩, rfl, ?_⟩
      rw [decide_eq_decide]; omega
    · have h1 := df h1
      conv => whnf
      exact ⟨_, ⟨rfl, trivial⟩, rfl, by rw [eq_comm, decide_eq_false_iff_not]; omega⟩
  rintro β w6 ⟨hw6, hβ⟩
  subst hw6
  conv => whnf
  refine vcCond_split lok rfl (fun h1 => ?_) (fun h1 => ?_)
  · rw [h1] at hβ
    have hlt2 := dt hβ.symm
    clear hβ
    have g5 := hcu.at i hlt2.1
    generalize cuts[i] = cm at *
    obtain ⟨pp, oo, hpa, hcell0⟩ := g5
    have hcell : ∀ k v, (pairC cm)[k]? = some v → w6.cell? ⟨pp, oo + i * 2 + k, none⟩ = some v := fun k v hv => Below.cell_of (w := w) x5 (cell_lt (hcell0 k v hv)) (hcell0 k v hv)
    have hx1 := cm.1.isLt
    conv => whnf
    refine vcDraw_go lok mixed (Ext w6) [] [0, 1, 2, 3, 4, 5, 6, 7, 8, 9, 10, 11, 12, 13] (by kernel_rfl) (fun w7 hw7 => ⟨hw7 ▸ Ext.drew w6, ?_⟩)
    have x7 : Ext w6 w7 := hw7 ▸ Ext.drew w6
    clear hw7
    conv => whnf
    refine ⟨pp, oo, hpa, ⟨by omega, by omega⟩, ?_⟩
    conv => whnf
    refine ⟨by decide, ?_⟩
    conv => whnf
    refine ⟨_, fun w' hw' => Below.cell_of hw' (cell_lt (hcell 0 _ rfl)) (hcell 0 _ rfl), ?_⟩
    conv => whnf
    refine ⟨by decide, ?_⟩
    intro z hz
    have hz28 : z = ((cm.1.toNat % 60 : Nat) : Int) := by rw [hz]; exact rem_nat _ 60
    clear hz
    subst hz28
    conv => whnf
    intro z hz
    have hz29 : z = ((cm.1.toNat % 60 : Nat) : Int) := by rw [hz]; exact wi64 (by omega)
    clear hz
    subst hz29
    conv => whnf
    refine ⟨pp, oo, hpa, ⟨by omega, by omega⟩, ?_⟩
    conv => whnf
    refine ⟨by decide, ?_⟩
    conv => whnf
    refine ⟨_, fun w' hw' => Below.cell_of hw' (cell_lt (hcell 1 _ rfl)) (hcell 1 _ rfl), ?_⟩
    conv => whnf
    have g8 := cut_calls (S5.ext x7).f ((cm.1.toNat % 60 : Nat) : Int) cm.2
    rw [cut_pos s _ (by omega) cm.2] at g8
    have sn8 := sn.cut ((cm.1.toNat % 60 : Nat) : Int) (by omega) cm.2
    rw [cut_pos s _ (by omega) cm.2] at sn8
    have gs1 : ∃ s1 : FS, s1 = { s with left := ((cm.1.toNat % 60 : Nat) : Int), mask := cm.2 } := ⟨_, rfl⟩
    obtain ⟨s1, hs1⟩ := gs1
    have sw1 : s1.ws = s.ws := by rw [hs1]
    have so1 : s1.off = false := by rw [hs1]; exact so
    rw [← hs1] at g8 sn8
    clear hs1
    refine Calls.ret (g8) ?_
    rintro _ w8 ⟨rfl, f8, m8⟩
    conv => whnf
    have S8 : SlAt w.heap.size w8 sb g gw fc 0 s1 := (S5.ext x7).next f8 m8 (by rw [sw1])
    have ho8 := nS m8 (ho5.ext x7)
    have x8 := FlMod.above m8 (x5.trans x7) (by omega) (by omega)
    have img1 : Img s1.ws (atF 0 0) 9#32 all := by rw [sw1]; exact simg
    replace sn8 : Num s1 1536 (200 * i + 18) := sn8
    refine Calls.ret (shave_calls S8 0) ?_
    rintro _ w9 ⟨rfl, x9⟩
    conv => whnf
    have eh1 := img_have so1 hbad img1
    rw [eh1]
    refine vcLoop_inv lok (σ := Nat)
      (fun k => [(16, .int .i64 k), (14, .int .u32 (haveB s1.ws (atF 0 0) all.length 32).toNat), (13, .int .i64 i), (10, .pointer (some ⟨sb, 0, none⟩)), (8, .slice aa n ac), (12, .int .i64 many), (2, .slice oa cuts.length oc), (9, .pointer (some ⟨g, 0, none⟩))])
      (fun k w' => k ≤ many ∧ ∃ s2, SlAt w.heap.size w' sb g gw fc 0 s2 ∧ Num s2 1536 (200 * i + 18 + 17 * k) ∧ Img s2.ws (atF 0 0) 9#32 all ∧ (∀ j, j < 32 → s1.ws.getD (atF 0 0 + 3 + j) 0#32 = 0#32 → s2.ws.getD (atF 0 0 + 3 + j) 0#32 = 0#32) ∧ Own 5 u8v w.heap.size w' aa ac all ∧ Ext w w') (fun k => many - k)
      0 ⟨rfl, rfl, rfl, rfl, rfl, rfl, rfl, rfl, trivial⟩ ⟨Nat.zero_le _, s1, S8.ext x9, sn8, img1, fun j _ q => q, ho8.ext x9, x8.trans x9⟩ ?_
    clear S8 ho8 x8 x9 m8 f8 eh1 S5 ho5 x5 x7 simg sn so slen hcell
    rintro k w10 ⟨hk, s2, S10, sn10, img2, hmk, ho10, x10⟩
    have sl10 := sn10.len
    conv => whnf
    refine vcReg_meet lok (fun β : Bool => [(86, .bool β)]) (fun β w' => w' = w10 ∧ β = (decide (k < many) && !s2.off)) [86] (fun _ => rfl) rfl ?_ ?_
    · conv => whnf
      refine bcase (fun h2 => ?_) (fun h2 => ?_)
      · have h2 := dt h2
        conv => whnf
        refine Calls.ret (fon_calls S10.f) ?_
        rintro _ w11 ⟨rfl, rfl⟩
        conv => whnf
        exact ⟨_, ⟨rfl, trivial⟩, rfl, by rw [decide_eq_true (by omega)]; rfl⟩
      · have h2 := df h2
        conv => whnf
        exact ⟨_, ⟨rfl, trivial⟩, rfl, by rw [decide_eq_false (by omega)]; rfl⟩
    rintro β2 w11 ⟨hw11, hβ2⟩
    subst hw11
    conv => whnf
    refine vcCond_split lok rfl (fun h3 => ?_) (fun h3 => ?_)
    · rw [h3] at hβ2
      have hkm : k < many := by
        by_cases q : k < many
        · exact q
        · rw [decide_eq_false q] at hβ2; cases hβ2
      have so2 : s2.off = false := by
        cases q : s2.off with
        | false => rfl
        | true => rw [q, decide_eq_true hkm] at hβ2; cases hβ2
      clear hβ2
      have hk2 := hm4 k hkm
      have gch := lchunk_calls ho10.sl (by omega) hac.1 (by omega) k (by omega)
      rw [hal] at gch
      conv => whnf
      refine Calls.ret (gch) ?_
      rintro _ w12 ⟨ca, cc, rfl, hcs, hw12⟩
      conv => whnf
      subst hw12
      have gwi := write_img (slot := 0) (n := 0) so2 hbad img2 k (by omega)
      have nn := write_num (at_ := 0) (slot := 0) (chunk := (k : Int)) (b := chunkF all k) sn10
      have gwr := swrite_calls (bc := cc) S10 0 (k : Int) hcs (by rw [chunkF_len]; have := lenC_le all.length k; omega) (by rw [sl10]; exact sn10) (by omega)
      have hres : ∃ t e, writeSF s2 0 0 (k : Int) (chunkF all k) = (t, e) ∧ ((e = 0 ∧ t.off = false) ∨ (e = 7 ∧ t.off = true)) ∧ Img t.ws (atF 0 0) 9#32 all ∧ (∀ j, j < 32 → s2.ws.getD (atF 0 0 + 3 + j) 0#32 = 0#32 → t.ws.getD (atF 0 0 + 3 + j) 0#32 = 0#32) := by
        rcases gwi with ⟨t, q1, q2, _, _, q5, q6, q7⟩ | ⟨t, q1, q2, _, _, q5, q6⟩
        · refine ⟨t, 0, q1, .inl ⟨rfl, q2⟩, q5, fun j hj h0 => ?_⟩
          by_cases e : j = k
          · subst e; exact q6
          · rw [q7 j hj e]; exact h0
        · exact ⟨t, 7, q1, .inr ⟨rfl, q2⟩, q5, q6⟩
      obtain ⟨t, e, q1, q2, q3, q4⟩ := hres
      rw [q1] at gwr nn
      clear gwi
      refine Calls.ret (gwr) ?_
      rintro _ w13 ⟨rfl, S13, m13⟩
      conv => whnf
      replace S13 : SlAt w.heap.size w13 sb g gw fc 0 t := S13
      replace nn : Num t 1536 (200 * i + 18 + 17 * k + 17) := nn
      refine vcReg_meet lok (fun β : Bool => [(104, .bool β)]) (fun β w' => w' = w13 ∧ β = false) [104] (fun _ => rfl) rfl ?_ ?_
      · rcases q2 with ⟨q2, q5⟩ | ⟨q2, q5⟩
        · subst q2
          conv => whnf
          exact ⟨_, ⟨rfl, trivial⟩, rfl, rfl⟩
        · subst q2
          conv => whnf
          refine Calls.ret (fon_calls S13.f) ?_
          rintro _ w14 ⟨rfl, rfl⟩
          conv => whnf
          exact ⟨_, ⟨rfl, trivial⟩, rfl, by rw [q5]; rfl⟩
      rintro β3 w14 ⟨hw14, rfl⟩
      subst hw14
      conv => whnf
      refine vcCond_false lok (rfl) ?_
      conv => whnf
      refine ⟨by omega, ?_⟩
      conv => whnf
      exact ⟨k + 1, ⟨rfl, rfl, rfl, rfl, rfl, rfl, rfl, rfl, trivial⟩, ⟨by omega, t, S13, nn.up (by omega), q3, fun j hj h0 => q4 j hj (hmk j hj h0), nS m13 ho10, FlMod.above m13 x10 (by omega) (by omega)⟩, by omega⟩
    · clear hβ2
      conv => whnf
      refine Calls.ret (start_calls S10.f) ?_
      rintro _ w12 ⟨rfl, f12, m12⟩
      conv => whnf
      have S12 : SlAt w.heap.size w12 sb g gw fc 0 (startF s2) := S10.next f12 m12 rfl
      have sn12 := sn10.start
      have so12 : (startF s2).off = false := rfl
      have img12 : Img (startF s2).ws (atF 0 0) 9#32 all := img2
      have hmk12 : ∀ j, j < 32 → s1.ws.getD (atF 0 0 + 3 + j) 0#32 = 0#32 → (startF s2).ws.getD (atF 0 0 + 3 + j) 0#32 = 0#32 := hmk
      have ho12 := nS m12 ho10
      have x12 := FlMod.above m12 x10 (by omega) (by omega)
      have gs3 : ∃ s3, s3 = startF s2 := ⟨_, rfl⟩
      obtain ⟨s3, hs3⟩ := gs3
      rw [← hs3] at S12 sn12 so12 img12 hmk12
      clear hs3 f12 m12 hmk img2
      refine Calls.ret (shave_calls S12 0) ?_
      rintro _ w13 ⟨rfl, x13⟩
      conv => whnf
      rw [img_have so12 hbad img12]
      intro y3 hz
      have hz54 : y3 = ((haveB s3.ws (atF 0 0) all.length 32 &&& haveB s1.ws (atF 0 0) all.length 32).toNat : Int) := by rw [hz]; exact and32 _ _
      clear hz
      subst hz54
      conv => whnf
      rw [have_sub hmk12]
      refine vcCond_false lok (by rw [decide_eq_true rfl]; rfl) ?_
      conv => whnf
      refine ⟨by omega, ?_⟩
      conv => whnf
      exact ⟨i + 1, ⟨rfl, rfl, rfl, rfl, rfl, rfl, trivial⟩, ⟨by omega, s3, S12.ext x13, sn12.up (by omega), so12, img12, ho12.ext x13, x12.trans x13⟩, by omega⟩
  · clear hβ
    conv => whnf
    have g8 := cut_calls S5.f 1048576 0#32
    rw [cut_pos s _ (by decide) 0#32] at g8
    have sn8 := sn.cut 1048576 (by decide) 0#32
    rw [cut_pos s _ (by decide) 0#32] at sn8
    have gs1 : ∃ s1 : FS, s1 = { s with left := 1048576, mask := 0#32 } := ⟨_, rfl⟩
    obtain ⟨s1, hs1⟩ := gs1
    have sw1 : s1.ws = s.ws := by rw [hs1]
    have so1 : s1.off = false := by rw [hs1]; exact so
    have sl1 : s1.left = 1048576 := by rw [hs1]
    rw [← hs1] at g8 sn8
    clear hs1
    refine Calls.ret (g8) ?_
    rintro _ w8 ⟨rfl, f8, m8⟩
    conv => whnf
    have S8 : SlAt w.heap.size w8 sb g gw fc 0 s1 := S5.next f8 m8 (by rw [sw1])
    have ho8 := nS m8 ho5
    have x8 := FlMod.above m8 x5 (by omega) (by omega)
    have img1 : Img s1.ws (atF 0 0) 9#32 all := by rw [sw1]; exact simg
    replace sn8 : Num s1 1536 (200 * i + 18) := sn8
    refine vcLoop_inv lok (σ := Nat)
      (fun k => [(20, .int .i64 k), (10, .pointer (some ⟨sb, 0, none⟩)), (8, .slice aa n ac), (12, .int .i64 many)])
      (fun k w' => k ≤ many ∧ ∃ s2, SlAt w.heap.size w' sb g gw fc 0 s2 ∧ Num s2 1536 (200 * i + 18 + 17 * k) ∧ s2.off = false ∧ 1048576 - 17 * (k : Int) ≤ s2.left ∧ Img s2.ws (atF 0 0) 9#32 all ∧ (∀ j, j < k → s2.ws.getD (atF 0 0 + 3 + j) 0#32 = 0#32) ∧ Own 5 u8v w.heap.size w' aa ac all ∧ Ext w w') (fun k => many - k)
      0 ⟨rfl, rfl, rfl, rfl, trivial⟩ ⟨Nat.zero_le _, s1, S8, sn8, so1, by rw [sl1]; decide, img1, fun j hj => absurd hj (Nat.not_lt_zero _), ho8, x8⟩ ?_
    clear S8 ho8 x8 m8 f8 S5 ho5 x5 simg sn so slen sn8 img1 so1 sl1
    rintro k w10 ⟨hk, s2, S10, sn10, so2, sl2, img2, hmk, ho10, x10⟩
    have sl10 := sn10.len
    conv => whnf
    refine vcCond_split lok rfl (fun h3 => ?_) (fun h3 => ?_)
    · have h3 := dt h3
      conv => whnf
      have hkm : k < many := by omega
      have hk2 := hm4 k hkm
      have gch := lchunk_calls ho10.sl (by omega) hac.1 (by omega) k (by omega)
      rw [hal] at gch
      refine Calls.ret (gch) ?_
      rintro _ w12 ⟨ca, cc, rfl, hcs, hw12⟩
      conv => whnf
      subst hw12
      have gwi := write_img (slot := 0) (n := 0) so2 hbad img2 k (by omega)
      have nn := write_num (at_ := 0) (slot := 0) (chunk := (k : Int)) (b := chunkF all k) sn10
      have gwr := swrite_calls (bc := cc) S10 0 (k : Int) hcs (by rw [chunkF_len]; have := lenC_le all.length k; omega) (by rw [sl10]; exact sn10) (by omega)
      rcases gwi with ⟨t, q1, q2, _, q4, q5, q6, q7⟩ | ⟨t, q1, q2, _, q4, q5, q6⟩
      rotate_left
      · omega
      rw [q1] at gwr nn
      refine Calls.ret (gwr) ?_
      rintro _ w13 ⟨rfl, S13, m13⟩
      conv => whnf
      replace S13 : SlAt w.heap.size w13 sb g gw fc 0 t := S13
      replace nn : Num t 1536 (200 * i + 18 + 17 * k + 17) := nn
      refine vcCond_false lok (rfl) ?_
      conv => whnf
      refine ⟨by omega, ?_⟩
      conv => whnf
      refine ⟨k + 1, ⟨rfl, rfl, rfl, rfl, trivial⟩, ⟨by omega, t, S13, nn.up (by omega), q2, by omega, q5, fun j hj => ?_, nS m13 ho10, FlMod.above m13 x10 (by omega) (by omega)⟩, by omega⟩
      by_cases e : j = k
      · subst e; exact q6
      · rw [q7 j (by omega) e]; exact hmk j (by omega)
    · have h3 := df h3
      conv => whnf
      have hall : allB s2.ws (atF 0 0) all.length 32 = true := allB_iff.2 fun j hj hm => hmk j (by omega)
      have eb := img_whole so2 hbad img2
      rw [hall, if_pos rfl] at eb
      refine Calls.ret (sbytes_calls S10 0) ?_
      rintro _ w12 ⟨xa, xc, rfl, hox, x12⟩
      conv => whnf
      rw [eb] at hox ⊢
      refine vcReg_go lok ?_
      conv => whnf
      refine ⟨_, run_toStr hox.sl, ?_⟩
      conv => whnf
      have hst := run_toStr (P := Try.prog) (c := ac) (ho10.ext x12).sl
      rw [hal] at hst
      refine ⟨_, hst, ?_⟩
      conv => whnf
      intro γ hγ
      have hγ2 : γ = true := by rw [str_eq hγ rfl rfl]; simp
      clear hγ
      subst hγ2
      conv => whnf
      refine Calls.ret (known22) ?_
      rintro _ w13 ⟨rfl, x13⟩
      conv => whnf
      exact ⟨rfl, x10.trans (x12.trans x13)⟩
end Go.Proofs.Ytgipackjnncabaa

/- The law SlotsBegun, walked. -/
set_option linter.unusedVariables false
namespace Go.Proofs.Ytgipackjnncabaa
open Go.Vc Go.RowKit

theorem u32_any {z a : Int} (h : z = IntKind.u32.wrap a) : ∃ y : BitVec 32, z = (y.toNat : Int) := ⟨BitVec.ofInt 32 z, by rw [h, wu32, BitVec.toNat_ofInt]; omega⟩
theorem run_word (w : World) (x : BitVec 32) : ∃ w', (Instr.buildSlice 37 1 #[(0, u32v x)]).run Try.prog w = .ok (.slice (some ⟨w.heap.size, 0, none⟩) 1 1) w' ∧ Own 42 u32v w.heap.size w' (some ⟨w.heap.size, 0, none⟩) 1 [x] ∧ Ext w w' := by
  have g := run_buildN (P := Try.prog) (t := 37) (e := 42) e32.toElem [u32v x] (by simp [u32v, Value.oneCell']) (by simp) w
  exact ⟨_, g, own_lit (w := w) [x] (by simp), Ext.new _ _⟩
/-- what Head tells of words -/
def headV (ws : List (BitVec 32)) (p : Nat) : BitVec 32 × Nat × Bool := match headW ws p with
  | none => (0#32, 0, false)
  | some (v, m) => (v, m, true)
theorem headR_on {s : FS} {n : Nat} {slot : Int} (h : s.off = false) (hb : ¬ badF slot) : headR s n slot = headV s.ws (atF n slot) := headR_ok (check_ok h hb)
theorem haveF_on {s : FS} {n : Nat} {slot : Int} (h : s.off = false) (hb : ¬ badF slot) : haveF s n slot = haveW s.ws (atF n slot) := by unfold haveF; rw [if_neg (by rw [h]; simp [hb])]

theorem drop_ok {s : FS} {n : Nat} {slot : Int} (hs : s.off = false) (hb : ¬ badF slot) (hl : s.left ≠ 0) (hn : atF n slot + 768 ≤ s.ws.length) : ∃ t, dropSF s n slot = (t, 0) ∧ t.off = false ∧ headW t.ws (atF n slot) = none := by
  have hp : atF n slot = 256 * (n + 3 * slot.toNat) := by unfold atF; omega
  have e : dropSF s n slot = (s.did (fillF s.ws (256 * (n + 3 * slot.toNat)) 256), 0) := by
    unfold dropSF eraseF
    rw [check_ok hs hb, if_neg (by simp), hs, if_neg (by simp), if_neg (by omega), if_neg hl, Int.toNat_natCast]
  refine ⟨_, e, (did_off _ _).trans hs, headW_none (.inl ?_)⟩
  rw [did_ws, hp, fill_get0, if_pos (by omega)]

set_option maxRecDepth 100000 in
set_option maxHeartbeats 8000000 in
theorem slotsBegun_walk {w : World} {la : Option Addr} {lc : Nat} {l : List (BitVec 32)} (hl32 : Sl u32v w la l) (hll : l.length ≤ 9223372036854775807) (c0 c1 c2 : BitVec 32) (sz : Nat) (hsz : sz ≤ 65535) :
    Calls Try.prog 36 #[.slice la l.length lc, .agg #[.int .u32 c0.toNat, .int .u32 c1.toNat, .int .u32 c2.toNat], .int .u16 sz] w (Law w) := by
  refine calls_of_vc lok Try.func36 ?_ rfl
  conv => whnf
  intro w1 hw1
  have hc1 : Blk w1 w.heap.size 99 [u32v c0, u32v c1, u32v c2] ∨ Blk w1 w.heap.size 166 [u32v c0, u32v c1, u32v c2] := by right; rw [hw1]; exact Blk.new w 166 _
  replace hc1 : Blk w1 w.heap.size 166 [u32v c0, u32v c1, u32v c2] := by rw [hw1]; exact Blk.new w 166 _
  have x1 : Ext w w1 := by rw [hw1]; exact Ext.new _ _
  clear hw1
  have hclt := hc1.lt
  have gcb : ∃ cb, cb = w.heap.size := ⟨_, rfl⟩
  obtain ⟨cb, hcb⟩ := gcb
  rw [← hcb] at hc1 hclt ⊢
  conv => whnf
  refine vcLoop_inv lok (σ := Nat × Option Addr × Nat × List (BitVec 32))
    (fun ⟨i, ra, rc, ws⟩ => [(8, .int .i64 i), (7, .slice ra ws.length rc), (0, .slice la l.length lc), (4, .pointer (some ⟨cb, 0, none⟩)), (2, .int .u16 sz)])
    (fun ⟨i, ra, rc, ws⟩ w' => i ≤ 1536 ∧ ws.length = i ∧ Own 42 u32v w1.heap.size w' ra rc ws ∧ Ext w1 w') (fun t => 1536 - t.1)
    (0, none, 0, []) ⟨rfl, rfl, rfl, rfl, rfl, trivial⟩ ⟨Nat.zero_le _, rfl, Own.nil _ _ _ _, Ext.refl _⟩ ?_
  rintro ⟨i, ra, rc, ws⟩ w2 ⟨hi, hwl, ho2, x2⟩
  conv => whnf
  refine vcCond_split lok rfl (fun h2 => ?_) (fun h2 => ?_)
  · have h2 := dt h2
    conv => whnf
    intro z hz
    clear hz
    conv => whnf
    intro z2 hz2
    have gy := u32_any hz2
    obtain ⟨y0, hy0⟩ := gy
    clear hz2
    subst hy0
    conv => whnf
    refine vcCond_meet (fun y : BitVec 32 => [(9, .int .u32 y.toNat), (8, .int .i64 i), (7, .slice ra ws.length rc), (0, .slice la l.length lc), (4, .pointer (some ⟨cb, 0, none⟩)), (2, .int .u16 sz)]) (fun y w' => w' = w2) ?_ ?_
    · refine vcCond_split lok rfl (fun h3 => ?_) (fun h3 => ?_)
      · have h3 := dt h3
        conv => whnf
        refine ⟨by omega, ?_⟩
        intro z hz
        have hz10 : z = ((i % l.length : Nat) : Int) := by rw [hz]; exact rem_nat i l.length
        clear hz
        subst hz10
        conv => whnf
        have hix : i % l.length < l.length := Nat.mod_lt _ (by omega)
        have g11 := sl_get ((hl32.ext (x1.trans x2))) (((i % l.length : Nat) : Int)) (i % l.length) (by omega) (by omega)
        obtain ⟨p11, o11, ha11, hb11, hcell11⟩ := g11
        refine ⟨p11, o11, ha11, hb11, ?_⟩
        conv => whnf
        refine ⟨_, hcell11, ?_⟩
        conv => whnf
        exact ⟨_, ⟨rfl, rfl, rfl, rfl, rfl, rfl, trivial⟩, rfl⟩
      · conv => whnf
        exact ⟨y0, ⟨rfl, rfl, rfl, rfl, rfl, rfl, trivial⟩, rfl⟩
    rintro y w3 hw3
    subst hw3
    conv => whnf
    have g6 := run_word w3 y
    obtain ⟨w6, hr6, ho6, x6⟩ := g6
    refine ⟨_, _, hr6, ?_⟩
    conv => whnf
    have z6 := x6.size
    have z2 := x2.size
    have g7 := run_app (ty := 37) (d := 1) (ho2.ext x6) ho6.sl (by simp; omega) (by omega)
    obtain ⟨a7, c7, w7, hr7, ho7, hg7⟩ := g7
    refine ⟨_, _, hr7, ?_⟩
    have x7 : Ext w1 w7 := hg7.extOf (x2.trans x6) (fun g hg => (ho2.ge g hg).1)
    have el : (ws ++ [y]).length = i + 1 := by rw [List.length_append, hwl]; rfl
    have gy : ∃ ys, ys = ws ++ [y] := ⟨_, rfl⟩
    obtain ⟨ys, hys⟩ := gy
    rw [← hys] at ho7 el ⊢
    conv => whnf
    refine ⟨by omega, ?_⟩
    conv => whnf
    exact ⟨(i + 1, a7, c7, ys), ⟨rfl, rfl, rfl, rfl, rfl, trivial⟩, ⟨by omega, el, ho7, x7⟩, by show 1536 - (i + 1) < 1536 - i; omega⟩
  have h2 := df h2
  conv => whnf
  have hw1536 : ws.length = 1536 := by omega
  clear h2 hi hwl
  intro z hz
  have hz18 : z = (sz : Int) := by rw [hz]; exact wi64 (by omega)
  clear hz
  subst hz18
  conv => whnf
  refine ⟨by decide, ?_⟩
  intro z hz
  have hz19 : z = ((sz % 2048 : Nat) : Int) := by rw [hz]; exact rem_nat sz 2048
  clear hz
  subst hz19
  conv => whnf
  refine ⟨by omega, ?_⟩
  conv => whnf
  have gn : ∃ n : Nat, n = 1 + sz % 2048 ∧ 1 ≤ n ∧ n ≤ 2048 := ⟨_, rfl, by omega, by omega⟩
  obtain ⟨n, hn, hn1, hn2⟩ := gn
  rw [show (1 : Int) + ((sz % 2048 : Nat) : Int) = (n : Int) by omega]
  conv => whnf
  refine Calls.ret (of_big ho2.sl (by omega)) ?_
  rintro _ w3 hp
  conv => whnf
  rcases hp with ⟨_, g, gw, fc, rfl, f3, x3⟩ | ⟨hno, _⟩
  rotate_left
  · rw [hw1536] at hno; exact absurd hno (by decide)
  have so0 : (newFS ws).off = false := rfl
  have sn0 : Num (newFS ws) 1536 0 := ⟨hw1536, ⟨Int.le_refl _, Int.le_refl _⟩, by show (-1 : Int) ≤ _; decide⟩
  have gs0 : ∃ s0, s0 = newFS ws := ⟨_, rfl⟩
  obtain ⟨s0, hs0⟩ := gs0
  rw [← hs0] at f3 so0 sn0
  clear hs0
  have l0 := sn0.len
  have f3lo := f3.lo
  have f3lt := f3.lt
  have z1 := x1.size
  have z2 := x2.size
  have x03 := x1.trans (x2.trans x3)
  have hc3 := (hc1.ext x2).ext x3
  conv => whnf
  refine Calls.ret (sopen_calls f3 (by omega) 0) ?_
  rintro _ w4 hp
  conv => whnf
  rcases hp with ⟨hno, _, _⟩ | ⟨m, hm, _, sb, rfl, hsb, S4, x4⟩
  · exact absurd ⟨by decide, by rw [l0]; decide⟩ hno
  have hm0 : m = 0 := by omega
  subst hm0
  clear hm
  have hbad : ¬ badF 0 := by decide
  have hat : atF 0 0 = 0 := rfl
  have S4' : SlAt w.heap.size w4 sb g gw fc 0 s0 := ⟨S4.f.base (by omega), S4.b, S4.n1, S4.n2, S4.room, S4.small⟩
  clear S4
  conv => whnf
  refine vcReg_go lok ?_
  conv => whnf
  refine vcCond_false lok (rfl) ?_
  conv => whnf
  refine Calls.ret (shead_calls S4' 0) ?_
  rintro _ w5 ⟨rfl, x5⟩
  conv => whnf
  rw [headR_on so0 hbad]
  have gH0 : ∃ H, H = headV s0.ws (atF 0 0) := ⟨_, rfl⟩
  obtain ⟨H0, hH0⟩ := gH0
  rw [← hH0]
  have S5 := S4'.ext x5
  have hc5 := (hc3.ext x4).ext x5
  have x05 := x03.trans (x4.trans x5)
  have hc0lt := c0.isLt
  refine ⟨by decide, ?_⟩
  conv => whnf
  refine ⟨_, hc5.cell (i := 0) rfl, ?_⟩
  conv => whnf
  refine ⟨by decide, ?_⟩
  have gk8 : ∃ k8 : Nat, k8 = c0.toNat % 8 ∧ k8 < 8 := ⟨_, rfl, by omega⟩
  obtain ⟨k8, hk8, hk88⟩ := gk8
  intro z hz
  have hz31 : z = (k8 : Int) := by rw [hz, hk8]; exact rem_nat _ 8
  clear hz
  subst hz31
  conv => whnf
  intro z hz
  have hz32 : z = (k8 : Int) := by rw [hz]; exact wi64 (by omega)
  clear hz
  subst hz32
  conv => whnf
  refine ⟨by decide, ?_⟩
  conv => whnf
  have hcell1 : w5.cell? ⟨cb, 0 + (1 : Int).toNat * 1, none⟩ = some (u32v c1) := by rw [show 0 + (1 : Int).toNat * 1 = 0 + 1 from rfl]; exact hc5.cell (i := 1) rfl
  refine ⟨u32v c1, hcell1, ?_⟩
  conv => unfold vcPut; dsimp only
  rw [show Nat.blt 76 Try.f36.ntmps = true from rfl]
  conv => unfold vcOps; dsimp only
  conv => unfold vcOp; dsimp only [ev, evs]
  conv => whnf
  have g8 := cut_calls S5.f (k8 : Int) c1
  have sn8 := sn0.cut (k8 : Int) (by omega) c1
  rw [cut_pos s0 _ (by omega) c1] at g8 sn8
  have gs1 : ∃ s1 : FS, s1 = { s0 with left := (k8 : Int), mask := c1 } := ⟨_, rfl⟩
  obtain ⟨s1, hs1⟩ := gs1
  have sw1 : s1.ws = s0.ws := by rw [hs1]
  have so1 : s1.off = false := by rw [hs1]; exact so0
  rw [← hs1] at g8 sn8
  clear hs1
  replace sn8 : Num s1 1536 1 := sn8
  refine Calls.ret (g8) ?_
  rintro _ w8 ⟨rfl, f8, m8⟩
  conv => whnf
  have S8 : SlAt w.heap.size w8 sb g gw fc 0 s1 := S5.next f8 m8 (by rw [sw1])
  have x08 := FlMod.above m8 x05 (by omega) (by omega)
  have ncb : ¬ (cb = g ∨ cb = gw) := fun e => by rcases e with e | e <;> omega
  have hc8 := m8.keepBlk hc5 ncb
  have hcell2 : w8.cell? ⟨cb, 0 + (2 : Int).toNat * 1, none⟩ = some (u32v c2) := by rw [show 0 + (2 : Int).toNat * 1 = 0 + 2 from rfl]; exact hc8.cell (i := 2) rfl
  refine ⟨by decide, ?_⟩
  conv => whnf
  refine ⟨u32v c2, hcell2, ?_⟩
  conv => whnf
  have hc2lt := c2.isLt
  refine ⟨by decide, ?_⟩
  intro z hz
  have hz38 : z = ((c2.toNat % 1000 : Nat) : Int) := by rw [hz]; exact rem_nat _ 1000
  clear hz
  subst hz38
  conv => whnf
  have gv : ∃ v : BitVec 32, v = BitVec.ofNat 32 (1 + c2.toNat % 1000) := ⟨_, rfl⟩
  obtain ⟨v, hv⟩ := gv
  have hvn : v.toNat = 1 + c2.toNat % 1000 := by rw [hv, BitVec.toNat_ofNat]; omega
  clear hv
  intro z hz
  have hz39 : z = (v.toNat : Int) := by rw [hz, wu32]; omega
  clear hz
  subst hz39
  conv => whnf
  have hcan : canN v (n : Int) := ⟨fun e => by rw [e] at hvn; simp at hvn; omega, fun e => by rw [e] at hvn; have : ones.toNat = 4294967295 := rfl; omega, by omega, by omega⟩
  have gb := begin_cases (n := 0) (slot := 0) (v := v) (m := n) so1 hbad hcan (by rw [hat, sn8.len]; decide)
  have tn := begin_num (at_ := 0) (slot := 0) (v := v) (m := n) sn8
  have gbeg := sbegin_calls S8 0 v n (by rw [sn8.len]; exact sn8) (by decide)
  rw [Int.toNat_natCast, sw1] at gb
  have hres : ∃ t e, beginSF s1 0 0 v n = (t, e) ∧ ((e = 0 ∧ Fresh t.ws (atF 0 0) v n) ∨ (e = 7 ∧ (Fresh t.ws (atF 0 0) v n ∨ t.ws = s0.ws ∨ headW t.ws (atF 0 0) = none))) := by
    rcases gb with ⟨t, q1, q2, _, _⟩ | ⟨t, q1, _, _, q4⟩
    · exact ⟨t, 0, q1, .inl ⟨rfl, q2⟩⟩
    · exact ⟨t, 7, q1, .inr ⟨rfl, q4⟩⟩
  obtain ⟨t, e, q1, q2⟩ := hres
  rw [q1] at tn gbeg
  clear gb
  replace tn : Num t 1536 18 := tn
  refine Calls.ret (gbeg) ?_
  rintro _ w9 ⟨rfl, S9, m9⟩
  conv => whnf
  replace S9 : SlAt w.heap.size w9 sb g gw fc 0 t := S9
  have x09 := FlMod.above m9 x08 (by omega) (by omega)
  have hc9 := m9.keepBlk hc8 ncb
  refine Calls.ret (start_calls S9.f) ?_
  rintro _ w10 ⟨rfl, f10, m10⟩
  conv => whnf
  have S10 : SlAt w.heap.size w10 sb g gw fc 0 (startF t) := S9.next f10 m10 rfl
  have x010 := FlMod.above m10 x09 (by omega) (by omega)
  have hc10 := m10.keepBlk hc9 ncb
  have sn10 := tn.start
  have so10 : (startF t).off = false := rfl
  have sw10 : (startF t).ws = t.ws := rfl
  have gs3 : ∃ s3, s3 = startF t := ⟨_, rfl⟩
  obtain ⟨s3, hs3⟩ := gs3
  rw [← hs3] at S10 sn10 so10 sw10
  clear hs3 f10
  rw [← sw10] at q2
  refine Calls.ret (shead_calls S10 0) ?_
  rintro _ w11 ⟨rfl, x11⟩
  conv => whnf
  rw [headR_on so10 hbad]
  refine Calls.ret (shave_calls (S10.ext x11) 0) ?_
  rintro _ w12 ⟨rfl, x12⟩
  conv => whnf
  rw [haveF_on so10 hbad]
  have hc12 := (hc10.ext x11).ext x12
  -- what is told of what was begun
  have qF : Fresh s3.ws (atF 0 0) v n → headV s3.ws (atF 0 0) = (v, n, true) ∧ (haveW s3.ws (atF 0 0)).1 = 0#32 := fun q => ⟨(by unfold headV; rw [q.head]), q.have⟩
  have qS : s3.ws = s0.ws → headV s3.ws (atF 0 0) = headV s0.ws (atF 0 0) := fun q => by rw [q]
  have qN : headW s3.ws (atF 0 0) = none → (headV s3.ws (atF 0 0)).2.2 = false := fun q => by unfold headV; rw [q]
  have gH : ∃ H, H = headV s3.ws (atF 0 0) := ⟨_, rfl⟩
  obtain ⟨H, hH⟩ := gH
  rw [← hH0] at qS
  rw [← hH] at qF qS qN ⊢
  clear hH hH0
  have gV : ∃ V, V = (haveW s3.ws (atF 0 0)).1 := ⟨_, rfl⟩
  obtain ⟨V, hV⟩ := gV
  rw [← hV] at qF ⊢
  clear hV
  have qF1 : Fresh s3.ws (atF 0 0) v n → H.1 = v ∧ H.2.1 = n ∧ H.2.2 = true ∧ V = 0#32 := fun q => by
    have k := qF q
    rw [k.1]
    exact ⟨rfl, rfl, rfl, k.2⟩
  clear qF
  conv => whnf
  refine vcReg_meet lok (fun β : Bool => [(23, .bool β)]) (fun β w' => w' = w12 ∧ (Fresh s3.ws (atF 0 0) v n → β = true)) [23] (fun _ => rfl) rfl ?_ ?_
  · conv => whnf
    refine bcase (fun k1 => ?_) (fun k1 => ?_)
    · conv => whnf
      refine ⟨by decide, ?_⟩
      conv => whnf
      have hcell3 : w12.cell? ⟨cb, 0 + (2 : Int).toNat * 1, none⟩ = some (u32v c2) := by rw [show 0 + (2 : Int).toNat * 1 = 0 + 2 from rfl]; exact hc12.cell (i := 2) rfl
      refine ⟨u32v c2, hcell3, ?_⟩
      conv => whnf
      refine ⟨by decide, ?_⟩
      intro z hz
      have hz49 : z = ((c2.toNat % 1000 : Nat) : Int) := by rw [hz]; exact rem_nat _ 1000
      clear hz
      subst hz49
      conv => whnf
      intro z hz
      have hz50 : z = (v.toNat : Int) := by rw [hz, wu32]; omega
      clear hz
      subst hz50
      conv => whnf
      refine bcase (fun k2 => ?_) (fun k2 => ?_)
      · conv => whnf
        refine bcase (fun k3 => ?_) (fun k3 => ?_)
        · conv => whnf
          refine ⟨_, ⟨rfl, trivial⟩, rfl, fun q => ?_⟩
          rw [(qF1 q).2.2.2]
          rfl
        · conv => whnf
          exact ⟨_, ⟨rfl, trivial⟩, rfl, fun q => absurd (by rw [(qF1 q).2.1]) (df k3)⟩
      · conv => whnf
        exact ⟨_, ⟨rfl, trivial⟩, rfl, fun q => absurd (by rw [(qF1 q).1]) (df k2)⟩
    · conv => whnf
      exact ⟨_, ⟨rfl, trivial⟩, rfl, fun q => by rw [(qF1 q).2.2.1] at k1; cases k1⟩
  rintro β1 w13 ⟨hw13, hβ1⟩
  subst hw13
  conv => whnf
  refine vcReg_meet lok (fun β : Bool => [(24, .bool β)]) (fun β w' => w' = w13 ∧ (s3.ws = s0.ws → β = true)) [24] (fun _ => rfl) rfl ?_ ?_
  · conv => whnf
    refine bcase (fun k1 => ?_) (fun k1 => ?_)
    · conv => whnf
      refine bcase (fun k2 => ?_) (fun k2 => ?_)
      · conv => whnf
        exact ⟨_, ⟨rfl, trivial⟩, rfl, fun q => by rw [qS q]; exact decide_eq_true rfl⟩
      · conv => whnf
        exact ⟨_, ⟨rfl, trivial⟩, rfl, fun q => absurd (by rw [qS q]) (df k2)⟩
    · conv => whnf
      exact ⟨_, ⟨rfl, trivial⟩, rfl, fun q => by rw [qS q, beq_self_bool] at k1; cases k1⟩
  rintro β2 w14 ⟨hw14, hβ2⟩
  subst hw14
  conv => whnf
  refine vcReg_meet lok (fun β : Bool => [(153, .bool β)]) (fun β w' => w' = w14 ∧ β = false) [153] (fun _ => rfl) rfl ?_ ?_
  · rcases q2 with ⟨q2, q3⟩ | ⟨q2, q3⟩
    · have h1 := hβ1 q3
      subst h1
      subst q2
      conv => whnf
      exact ⟨_, ⟨rfl, trivial⟩, rfl, rfl⟩
    · subst q2
      rcases q3 with q3 | q3 | q3
      · have h1 := hβ1 q3
        subst h1
        conv => whnf
        refine bcase (fun k1 => ?_) (fun k1 => ?_)
        · conv => whnf
          exact ⟨_, ⟨rfl, trivial⟩, rfl, rfl⟩
        · conv => whnf
          exact ⟨_, ⟨rfl, trivial⟩, rfl, rfl⟩
      · have h2 := hβ2 q3
        subst h2
        conv => whnf
        refine bcase (fun k1 => ?_) (fun k1 => ?_)
        · conv => whnf
          refine bcase (fun k2 => ?_) (fun k2 => ?_)
          · conv => whnf
            exact ⟨_, ⟨rfl, trivial⟩, rfl, rfl⟩
          · conv => whnf
            exact ⟨_, ⟨rfl, trivial⟩, rfl, rfl⟩
        · conv => whnf
          exact ⟨_, ⟨rfl, trivial⟩, rfl, rfl⟩
      · have hb := qN q3
        rw [hb]
        conv => whnf
        exact ⟨_, ⟨rfl, trivial⟩, rfl, rfl⟩
  rintro β3 w15 ⟨hw15, rfl⟩
  subst hw15
  conv => whnf
  refine vcCond_false lok (rfl) ?_
  conv => whnf
  have x1115 := x11.trans x12
  have S15 := S10.ext x1115
  have g16 := cut_calls S15.f 1048576 0#32
  have sn16 := sn10.cut 1048576 (by decide) 0#32
  rw [cut_pos s3 _ (by decide) 0#32] at g16 sn16
  have gs4 : ∃ s4 : FS, s4 = { s3 with left := 1048576, mask := 0#32 } := ⟨_, rfl⟩
  obtain ⟨s4, hs4⟩ := gs4
  have so4 : s4.off = false := by rw [hs4]; exact so10
  have sl4 : s4.left = 1048576 := by rw [hs4]
  have sw4 : s4.ws = s3.ws := by rw [hs4]
  rw [← hs4] at g16 sn16
  clear hs4
  refine Calls.ret (g16) ?_
  rintro _ w16 ⟨rfl, f16, m16⟩
  conv => whnf
  have S16 : SlAt w.heap.size w16 sb g gw fc 0 s4 := S15.next f16 m16 (by rw [sw4])
  have x016 := FlMod.above m16 (x010.trans x1115) (by omega) (by omega)
  replace sn16 : Num s4 1536 20 := sn16
  have gd := drop_ok (n := 0) (slot := 0) so4 hbad (by rw [sl4]; decide) (by rw [hat, sn16.len]; decide)
  obtain ⟨t5, d1, d2, d3⟩ := gd
  have gdr := sdrop_calls S16 0 (by rw [sn16.len]; exact sn16) (by decide)
  rw [d1] at gdr
  refine Calls.ret (gdr) ?_
  rintro _ w17 ⟨rfl, S17, m17⟩
  conv => whnf
  replace S17 : SlAt w.heap.size w17 sb g gw fc 0 t5 := S17
  have x017 := FlMod.above m17 x016 (by omega) (by omega)
  have gh := shead_calls S17 0
  rw [headR_on d2 hbad] at gh
  have ev : headV t5.ws (atF 0 0) = (0#32, 0, false) := by unfold headV; rw [d3]
  rw [ev] at gh
  refine Calls.ret (gh) ?_
  rintro _ w18 ⟨rfl, x18⟩
  conv => whnf
  refine vcReg_go lok ?_
  conv => whnf
  refine Calls.ret (known22) ?_
  rintro _ w19 ⟨rfl, x19⟩
  conv => whnf
  exact ⟨rfl, x017.trans (x18.trans x19)⟩
end Go.Proofs.Ytgipackjnncabaa
