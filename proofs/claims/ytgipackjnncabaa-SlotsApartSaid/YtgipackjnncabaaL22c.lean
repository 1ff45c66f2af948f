/- The law SlotsBack, walked. -/
import Derived.Test.YtgipackjnncabaaL22b
set_option linter.unusedVariables false
namespace Go.Proofs.Ytgipackjnncabaa
open Go.Vc Go.RowKit

theorem have_or {ws vs : List (BitVec 32)} {p m k : Nat} (hk : k < 32) (hm : 64 * k < m) (h0 : vs.getD (p + 3 + k) 0#32 = 0#32) (h1 : ∀ j, j < 32 → j ≠ k → vs.getD (p + 3 + j) 0#32 = ws.getD (p + 3 + j) 0#32) :
    haveB vs p m 32 = haveB ws p m 32 ||| BitVec.twoPow 32 k := by
  apply BitVec.eq_of_getLsbD_eq
  intro i hi
  rw [BitVec.getLsbD_or, haveB_bit vs p m 32 i (Nat.le_refl _) hi, haveB_bit ws p m 32 i (Nat.le_refl _) hi, BitVec.getLsbD_twoPow]
  by_cases e : i = k
  · subst e
    have : bitB vs p m i = true := decide_eq_true ⟨hm, h0⟩
    rw [this]
    simp [hi]
  · have : bitB vs p m i = bitB ws p m i := by unfold bitB; rw [h1 i hi e]
    rw [this]
    simp [Ne.symm e, hi]
theorem seal_img {s : FS} {n : Nat} {slot : Int} {v : BitVec 32} {all : List (BitVec 8)} (hs : s.off = false) (hb : ¬ badF slot) (h : Img s.ws (atF n slot) v all) (hall : allB s.ws (atF n slot) all.length 32 = true) (hl : s.left < 0) :
    ∃ t, sealSF s n slot = (t, 0) ∧ sealedF t n slot = true := by
  have hlen := h.len
  have hmany := h.many
  have ew : wholeSF s n slot = (all.length, 0) := by
    unfold wholeSF haveW
    rw [check_ok hs hb, if_neg (by simp), h.head]
    exact if_pos hall
  have e : sealSF s n slot = (s.did (s.ws.set (atF n slot + 35) (s.ws.getD (atF n slot + 35) 0#32 &&& 0#32)), 0) := by
    unfold sealSF
    rw [ew, if_pos rfl]
    unfold progF
    rw [hs, if_neg (by simp), if_neg (by omega), if_neg (by omega), Int.toNat_natCast]
  refine ⟨_, e, ?_⟩
  have get := fun i => set_get0 s.ws (atF n slot + 35) i (s.ws.getD (atF n slot + 35) 0#32 &&& 0#32) (by omega)
  have eh : headW (s.ws.set (atF n slot + 35) (s.ws.getD (atF n slot + 35) 0#32 &&& 0#32)) (atF n slot) = some (v, all.length) := by
    have q := h.head
    unfold headW at q ⊢
    have l0 : (s.ws.set (atF n slot + 35) (s.ws.getD (atF n slot + 35) 0#32 &&& 0#32)).getD (atF n slot) 0#32 = s.ws.getD (atF n slot) 0#32 := by rw [get, if_neg (by omega)]
    have l1 : (s.ws.set (atF n slot + 35) (s.ws.getD (atF n slot + 35) 0#32 &&& 0#32)).getD (atF n slot + 1) 0#32 = s.ws.getD (atF n slot + 1) 0#32 := by rw [get, if_neg (by omega)]
    have l2 : (s.ws.set (atF n slot + 35) (s.ws.getD (atF n slot + 35) 0#32 &&& 0#32)).getD (atF n slot + 2) 0#32 = s.ws.getD (atF n slot + 2) 0#32 := by rw [get, if_neg (by omega)]
    rw [l0, l1, l2]
    exact q
  unfold sealedF haveF haveW
  rw [did_off, did_ws, hs, if_neg (by simp [hb]), eh]
  dsimp only
  have e35 : (s.ws.set (atF n slot + 35) (s.ws.getD (atF n slot + 35) 0#32 &&& 0#32)).getD (atF n slot + 35) 0#32 = 0#32 := by rw [get, if_pos rfl, BitVec.and_zero]
  have : allB (s.ws.set (atF n slot + 35) (s.ws.getD (atF n slot + 35) 0#32 &&& 0#32)) (atF n slot) all.length 32 = true := allB_iff.2 fun i hi hm => by
    rw [get, if_neg (by omega)]
    exact allB_iff.1 hall i hi hm
  rw [this, e35]
  rfl
theorem headR_img {s : FS} {n : Nat} {slot : Int} {v : BitVec 32} {all : List (BitVec 8)} (hs : s.off = false) (hb : ¬ badF slot) (h : Img s.ws (atF n slot) v all) : headR s n slot = (v, all.length, true) := by
  rw [headR_ok (check_ok hs hb), h.head]

set_option maxRecDepth 100000 in
set_option maxHeartbeats 8000000 in
theorem slotsBack_walk {w : World} {ba oa : Option Addr} {bc oc : Nat} {bs order : List (BitVec 8)} (hbs : Sl u8v w ba bs) (hbl : bs.length ≤ 9223372036854775807) (hor : Sl u8v w oa order) (hol : order.length ≤ 9223372036854775807) (sz : Nat) (hsz : sz ≤ 65535) :
    Calls Try.prog 33 #[.slice ba bs.length bc, .int .u16 sz, .slice oa order.length oc] w (Law w) := by
  refine calls_of_vc lok Try.func33 ?_ rfl
  conv => whnf
  intro z hz
  have hz2 : z = (sz : Int) := by rw [hz]; exact wi64 (by omega)
  clear hz
  subst hz2
  conv => whnf
  refine ⟨by decide, ?_⟩
  intro z hz
  have hz3 : z = ((sz % 2048 : Nat) : Int) := by rw [hz]; exact rem_nat sz 2048
  clear hz
  subst hz3
  conv => whnf
  refine ⟨by omega, ?_⟩
  conv => whnf
  have gn : ∃ n : Nat, n = 1 + sz % 2048 ∧ 1 ≤ n ∧ n ≤ 2048 := ⟨_, rfl, by omega, by omega⟩
  obtain ⟨n, hn, hn1, hn2⟩ := gn
  rw [show (1 : Int) + ((sz % 2048 : Nat) : Int) = (n : Int) by omega]
  conv => whnf
  refine Calls.ret (image_calls hbs hbl n hn2) ?_
  rintro _ w1 ⟨aa, ac, all, rfl, hal, hoa, x1⟩
  conv => whnf
  refine Calls.ret (new_calls 6) ?_
  rintro _ w2 hp
  conv => whnf
  rcases hp with ⟨hno, _, _⟩ | ⟨_, g, gw, fc, rfl, f2, x2⟩
  · exact absurd hno (by decide)
  replace f2 : FlAt 181 w1.heap.size w2 g gw fc k22S := f2
  have l0 : k22S.ws.length = 1536 := List.length_replicate
  have n0 : Num k22S 1536 0 := ⟨l0, ⟨Int.le_refl _, Int.le_refl _⟩, by show (-1 : Int) ≤ _; decide⟩
  have so : k22S.off = false := rfl
  have sl : k22S.left < 0 := by show (-1 : Int) < 0; decide
  generalize k22S = s0 at *
  have z1 := x1.size
  have f2lo := f2.lo
  have f2lt := f2.lt
  conv => whnf
  refine Calls.ret (sopen_calls f2 (by omega) 0) ?_
  rintro _ w3 hp
  conv => whnf
  rcases hp with ⟨hno, _, _⟩ | ⟨m, hm, _, sb, rfl, hsb, S3, x3⟩
  · exact absurd ⟨by decide, by rw [l0]; decide⟩ hno
  have hm0 : m = 0 := by omega
  subst hm0
  clear hm
  have hbad : ¬ badF 1 := by decide
  have hat : atF 0 1 = 768 := rfl
  have hcan : canN 5#32 (n : Int) := ⟨by decide, by decide, by omega, by omega⟩
  have gb := begin_cases (n := 0) (slot := 1) (v := 5#32) (m := n) so hbad hcan (by rw [hat, l0]; decide)
  rcases gb with ⟨t, e1, e2, e3, e4⟩ | ⟨_, _, _, q, _⟩
  rotate_left
  · omega
  have tl := e4 sl
  have tn := begin_num (at_ := 0) (slot := 1) (v := 5#32) (m := n) n0
  rw [e1] at tn
  replace tn : Num t 1536 17 := tn
  rw [Int.toNat_natCast, ← hal] at e2
  have timg := e2.img (all := all) (by rw [hat, tn.len]; decide)
  have x03 := x1.trans (x2.trans x3)
  have S3' : SlAt w.heap.size w3 sb g gw fc 0 s0 := ⟨S3.f.base z1, S3.b, S3.n1, S3.n2, S3.room, S3.small⟩
  have gbeg := sbegin_calls S3' 1 5#32 n (by rw [l0]; exact n0) (by decide)
  rw [e1] at gbeg
  have hoa3 := (hoa.ext x2).ext x3
  have nS : ∀ {w' w''}, FlMod g gw w' w'' → Own 5 u8v w.heap.size w' aa ac all → Own 5 u8v w.heap.size w'' aa ac all := fun {w' w''} m h => m.keepOwn h fun k hk e => by
    have := (hoa.ge k hk).2
    rcases e with e | e <;> omega
  conv => whnf
  refine vcReg_meet lok (fun β : Bool => [(52, .bool β)]) (fun β w' => β = false ∧ SlAt w.heap.size w' sb g gw fc 0 t ∧ FlMod g gw w3 w') [52] (fun _ => rfl) rfl ?_ ?_
  · conv => whnf
    refine Calls.ret (gbeg) ?_
    rintro _ w4 ⟨rfl, S4, m4⟩
    conv => whnf
    exact ⟨_, ⟨rfl, trivial⟩, rfl, S4, m4⟩
  rintro β w4 ⟨rfl, S4, m4⟩
  have hoa4 := nS m4 hoa3
  have x04 := FlMod.above m4 x03 (by omega) (by omega)
  clear gbeg e1 e2 S3 S3' hoa3 e4
  conv => whnf
  refine vcCond_false lok (rfl) ?_
  conv => whnf
  refine ⟨by omega, ?_⟩
  conv => whnf
  refine ⟨by decide, ?_⟩
  intro z hz
  have hz16 : z = (((n + 63) / 64 : Nat) : Int) := by rw [hz]; exact (congrArg IntKind.i64.wrap (quo_nat (n + 63) 64)).trans (wi64 (by omega))
  clear hz
  subst hz16
  conv => whnf
  have gmany : ∃ many : Nat, many = (n + 63) / 64 ∧ 1 ≤ many ∧ many ≤ 32 ∧ n ≤ 64 * many ∧ ∀ k, k < many → 64 * k < n := ⟨_, rfl, by omega, by omega, by omega, fun k hk => by omega⟩
  obtain ⟨many, hmany, hm1, hm2, hm3, hm4⟩ := gmany
  rw [← hmany]
  -- what a chunk's writing leaves
  have hac := hoa.le
  have hcm : maxLen ≤ 9223372036854775807 := by decide
  have step : ∀ (s : FS) (i : Nat) (w' : World) (k : Nat), k < many → SlAt w.heap.size w' sb g gw fc 0 s → Num s 1536 i → i ≤ 1152921504606846976 → s.off = false → s.left < 0 → Img s.ws (atF 0 1) 5#32 all → Own 5 u8v w.heap.size w' aa ac all →
      ∃ t, writeSF s 0 1 (k : Int) (chunkF all k) = (t, 0) ∧ t.off = false ∧ t.left < 0 ∧ Img t.ws (atF 0 1) 5#32 all ∧ Num t 1536 (i + 17) ∧ t.ws.getD (atF 0 1 + 3 + k) 0#32 = 0#32 ∧ (∀ j, j < 32 → j ≠ k → t.ws.getD (atF 0 1 + 3 + j) 0#32 = s.ws.getD (atF 0 1 + 3 + j) 0#32) := by
    intro s i w' k hk S sn hi so sl himg ho
    have hk2 := hm4 k hk
    have gw1 := write_img (slot := 1) (n := 0) so hbad himg k (by rw [hal]; exact hk2)
    have nn := write_num (at_ := 0) (slot := 1) (chunk := (k : Int)) (b := chunkF all k) sn
    rcases gw1 with ⟨t, g1, g2, g3, g4, g5, g6, g7⟩ | ⟨t, _, _, g3, _⟩
    · rw [g1] at nn
      exact ⟨t, g1, g2, g3 sl, g5, nn, g6, g7⟩
    · omega
  refine vcLoop_inv lok (σ := Nat)
    (fun i => [(13, .int .i64 i), (10, .pointer (some ⟨sb, 0, none⟩)), (8, .slice aa n ac), (7, .int .i64 n), (12, .int .i64 many), (2, .slice oa order.length oc), (9, .pointer (some ⟨g, 0, none⟩))])
    (fun i w' => i ≤ 60 ∧ ∃ s, SlAt w.heap.size w' sb g gw fc 0 s ∧ Num s 1536 (17 * i + 17) ∧ s.off = false ∧ s.left < 0 ∧ Img s.ws (atF 0 1) 5#32 all ∧ Own 5 u8v w.heap.size w' aa ac all ∧ Ext w w') (fun i => 60 - i)
    0 ⟨rfl, rfl, rfl, rfl, rfl, rfl, rfl, trivial⟩ ⟨Nat.zero_le _, t, S4, tn, e3, tl, timg, hoa4, x04⟩ ?_
  rintro i w5 ⟨hi60, s, S5, sn, so, sl, simg, ho5, x5⟩
  have slen := sn.len
  conv => whnf
  refine vcReg_meet lok (fun β : Bool => [(63, .bool β)]) (fun β w' => w' = w5 ∧ β = decide (i < order.length ∧ i < 60)) [63] (fun _ => rfl) rfl ?_ ?_
  · conv => whnf
    refine bcase (fun h1 => ?_) (fun h1 => ?_)
    · have h1 := dt h1
      conv => whnf
      refine ⟨_, ⟨rfl, trivial⟩, rfl, ?_⟩
      rw [decide_eq_decide]; omega
    · have h1 := df h1
      conv => whnf
      exact ⟨_, ⟨rfl, trivial⟩, rfl, by rw [eq_comm, decide_eq_false_iff_not]; omega⟩
  rintro β w6 ⟨hw6, hβ⟩
  subst hw6
  conv => whnf
  refine vcCond_split lok rfl (fun h1 => ?_) (fun h1 => ?_)
  · rw [h1] at hβ
    have hlt2 := dt hβ.symm
    conv => whnf
    have g24 := ((hor.ext x5)).at ((i : Int)) (by omega) (by omega)
    obtain ⟨p24, o24, ha24, hcell24⟩ := g24
    refine ⟨p24, o24, ha24, ⟨by omega, by omega⟩, ?_⟩
    conv => whnf
    refine ⟨_, hcell24, ?_⟩
    conv => whnf
    generalize order.getD (i : Int).toNat default = ov at *
    have hov := ov.isLt
    intro z hz
    have hz25 : z = (ov.toNat : Int) := by rw [hz]; exact wi64 (by omega)
    clear hz
    subst hz25
    conv => whnf
    refine ⟨by omega, ?_⟩
    intro z hz
    have hz26 : z = ((ov.toNat % many : Nat) : Int) := by rw [hz]; exact rem_nat _ _
    clear hz
    subst hz26
    conv => whnf
    have hkm : ov.toNat % many < many := Nat.mod_lt _ (by omega)
    generalize ov.toNat % many = k at *
    have hk2 := hm4 k hkm
    have gch := lchunk_calls ho5.sl (by omega) hac.1 (by omega) k (by omega)
    rw [hal] at gch
    refine Calls.ret (gch) ?_
    rintro _ w7 ⟨ca, cc, rfl, hcs, hw7⟩
    conv => whnf
    subst hw7
    have gst := step s (17 * i + 17) w7 k hkm S5 sn (by omega) so sl simg ho5
    obtain ⟨t2, g1, g2, g3, g4, g5, _, _⟩ := gst
    have gwr := swrite_calls (bc := cc) S5 1 (k : Int) hcs (by rw [chunkF_len]; have := lenC_le all.length k; omega) (by rw [slen]; exact sn) (by omega)
    rw [g1] at gwr
    refine Calls.ret (gwr) ?_
    rintro _ w8 ⟨rfl, S8, m8⟩
    conv => whnf
    replace S8 : SlAt w.heap.size w8 sb g gw fc 0 t2 := S8
    refine vcCond_false lok (rfl) ?_
    conv => whnf
    refine ⟨by omega, ?_⟩
    conv => whnf
    exact ⟨i + 1, ⟨rfl, rfl, rfl, rfl, rfl, rfl, rfl, trivial⟩, ⟨by omega, t2, S8, g5.up (by omega), g2, g3, g4, nS m8 ho5, FlMod.above m8 x5 (by omega) (by omega)⟩, by omega⟩
  clear hβ
  conv => whnf
  refine ⟨by omega, ?_⟩
  conv => whnf
  have hi2 : 17 * i + 17 ≤ 2000 := by omega
  have sn := sn.up hi2
  clear hi2
  rw [show ((many : Nat) : Int) - 1 = ((many : Nat) : Int) - 1 from rfl]
  refine vcLoop_inv lok (σ := Nat)
    (fun j => [(15, .int .i64 ((j : Int) - 1)), (10, .pointer (some ⟨sb, 0, none⟩)), (8, .slice aa n ac), (7, .int .i64 n)])
    (fun j w' => j ≤ many ∧ ∃ s, SlAt w.heap.size w' sb g gw fc 0 s ∧ Num s 1536 (2000 + 17 * (many - j)) ∧ s.off = false ∧ s.left < 0 ∧ Img s.ws (atF 0 1) 5#32 all ∧ Own 5 u8v w.heap.size w' aa ac all ∧ (∀ l, j ≤ l → l < many → s.ws.getD (atF 0 1 + 3 + l) 0#32 = 0#32) ∧ Ext w w') (fun j => j)
    many ⟨rfl, rfl, rfl, rfl, trivial⟩ ⟨Nat.le_refl _, s, S5, sn.up (by omega), so, sl, simg, ho5, fun l h1 h2 => by omega, x5⟩ ?_
  clear S5 sn so sl simg ho5 x5 slen
  rintro j w7 ⟨hj, s, S7, sn, so, sl, simg, ho7, hmk, x7⟩
  have slen := sn.len
  conv => whnf
  refine vcCond_split lok rfl (fun h3 => ?_) (fun h3 => ?_)
  · have h3 := dt h3
    conv => whnf
    have hj1 : 1 ≤ j := by omega
    have gk : ∃ k, j = k + 1 := ⟨j - 1, by omega⟩
    obtain ⟨k, rfl⟩ := gk
    rw [show ((k + 1 : Nat) : Int) - 1 = (k : Int) by omega]
    have hkm : k < many := by omega
    have hk2 := hm4 k hkm
    refine Calls.ret (shave_calls S7 1) ?_
    rintro _ w8 ⟨rfl, x8⟩
    conv => whnf
    have gch := lchunk_calls (ho7.ext x8).sl (by omega) hac.1 (by omega) k (by omega)
    rw [hal] at gch
    refine Calls.ret (gch) ?_
    rintro _ w9 ⟨ca, cc, rfl, hcs, hw9⟩
    conv => whnf
    subst hw9
    have gst := step s (2000 + 17 * (many - (k + 1))) w9 k hkm (S7.ext x8) sn (by omega) so sl simg (ho7.ext x8)
    obtain ⟨t2, g1, g2, g3, g4, g5, g6, g7⟩ := gst
    have gwr := swrite_calls (bc := cc) (S7.ext x8) 1 (k : Int) hcs (by rw [chunkF_len]; have := lenC_le all.length k; omega) (by rw [slen]; exact sn) (by omega)
    rw [g1] at gwr
    refine Calls.ret (gwr) ?_
    rintro _ w10 ⟨rfl, S10, m10⟩
    conv => whnf
    replace S10 : SlAt w.heap.size w10 sb g gw fc 0 t2 := S10
    have ho10 := nS m10 (ho7.ext x8)
    have x10 := FlMod.above m10 (x7.trans x8) (by omega) (by omega)
    have eh1 := img_have so hbad simg
    have eh2 := img_have g2 hbad g4
    have eor : haveB t2.ws (atF 0 1) all.length 32 = haveB s.ws (atF 0 1) all.length 32 ||| BitVec.twoPow 32 k := have_or (by omega) (by omega) g6 g7
    have eb := img_whole g2 hbad g4
    refine vcCond_false lok (rfl) ?_
    conv => whnf
    refine Calls.ret (shave_calls S10 1) ?_
    rintro _ w11 ⟨rfl, x11⟩
    conv => whnf
    rw [eh1, eh2, eor]
    intro y hz
    have hz41 : y = (k : Int) := by rw [hz, wu64]; omega
    clear hz
    subst hz41
    conv => whnf
    refine ⟨by omega, ?_⟩
    intro y2 hz
    have hz42 : y2 = ((BitVec.twoPow 32 k).toNat : Int) := by rw [hz, pow_nat k (by omega)]; exact shl_one k (by omega)
    clear hz
    subst hz42
    conv => whnf
    refine Calls.ret (sbytes_calls (S10.ext x11) 1) ?_
    rintro _ w12 ⟨xa, xc, rfl, hox, x12⟩
    conv => whnf
    rw [eb] at hox ⊢
    have ho12 := (ho10.ext x11).ext x12
    refine vcReg_meet lok (fun β : Bool => [(131, .bool β)]) (fun β w' => w' = w12 ∧ β = false) [131] (fun _ => rfl) rfl ?_ ?_
    · conv => whnf
      intro y3 hz
      have hz45 : y3 = ((haveB s.ws (atF 0 1) all.length 32 ||| BitVec.twoPow 32 k).toNat : Int) := by rw [hz]; exact or32 _ _
      clear hz
      subst hz45
      conv => whnf
      refine bcase (fun k4 => absurd rfl (ne_true k4)) (fun _ => ?_)
      cases hall : allB t2.ws (atF 0 1) all.length 32 with
      | false =>
        conv => whnf
        exact ⟨_, ⟨rfl, trivial⟩, rfl, rfl⟩
      | true =>
        rw [hall, if_pos rfl] at hox
        conv => whnf
        refine ⟨_, run_toStr hox.sl, ?_⟩
        conv => whnf
        have hst := run_toStr (P := Try.prog) (c := ac) ho12.sl
        rw [hal] at hst
        refine ⟨_, hst, ?_⟩
        conv => whnf
        intro γ hγ
        have hγ2 : γ = true := by rw [str_eq hγ rfl rfl]; simp
        clear hγ
        subst hγ2
        exact ⟨_, ⟨rfl, trivial⟩, rfl, rfl⟩
    rintro β w13 ⟨hw13, rfl⟩
    subst hw13
    conv => whnf
    refine vcCond_false lok (rfl) ?_
    conv => whnf
    refine ⟨by omega, ?_⟩
    conv => whnf
    refine ⟨k, ⟨rfl, rfl, rfl, rfl, trivial⟩, ⟨by omega, t2, (S10.ext x11).ext x12, g5.up (by omega), g2, g3, g4, ho12, fun l h1 h2 => ?_, x10.trans (x11.trans x12)⟩, by omega⟩
    by_cases e : l = k
    · subst e; exact g6
    · rw [g7 l (by omega) e]; exact hmk l (by omega) h2
  · have h3 := df h3
    conv => whnf
    have hj0 : j = 0 := by omega
    subst hj0
    have hall : allB s.ws (atF 0 1) all.length 32 = true := allB_iff.2 fun i hi hm => hmk i (Nat.zero_le _) (by omega)
    have eb := img_whole so hbad simg
    rw [hall, if_pos rfl] at eb
    have ehd := headR_img so hbad simg
    have gseal := seal_img so hbad simg hall sl
    obtain ⟨t3, q1, q2⟩ := gseal
    refine Calls.ret (sbytes_calls S7 1) ?_
    rintro _ w8 ⟨xa, xc, rfl, hox, x8⟩
    conv => whnf
    rw [eb] at hox ⊢
    refine Calls.ret (shead_calls (S7.ext x8) 1) ?_
    rintro _ w9 ⟨rfl, x9⟩
    conv => whnf
    rw [ehd]
    have gse := sseal_calls ((S7.ext x8).ext x9) 1 (by rw [slen]; exact sn) (by omega)
    rw [q1] at gse
    refine vcReg_go lok ?_
    conv => whnf
    refine ⟨_, run_toStr ((hox.ext x9).sl), ?_⟩
    conv => whnf
    have hst := run_toStr (P := Try.prog) (c := ac) ((ho7.ext x8).ext x9).sl
    rw [hal] at hst
    refine ⟨_, hst, ?_⟩
    conv => whnf
    intro γ hγ
    have hγ2 : γ = true := by rw [str_eq hγ rfl rfl]; simp
    clear hγ
    subst hγ2
    conv => whnf
    refine Calls.ret (gse) ?_
    rintro _ w10 ⟨rfl, S10, m10⟩
    conv => whnf
    replace S10 : SlAt w.heap.size w10 sb g gw fc 0 t3 := S10
    have gsd := ssealed_calls S10 1
    rw [q2] at gsd
    refine Calls.ret (gsd) ?_
    rintro _ w11 ⟨rfl, x11⟩
    conv => whnf
    refine bcase (fun _ => ?_) (fun k4 => absurd (by rw [hal]) (of_decide_eq_false k4))
    conv => whnf
    refine Calls.ret (known22) ?_
    rintro _ w12 ⟨rfl, x12⟩
    conv => whnf
    exact ⟨rfl, (FlMod.above m10 (x7.trans (x8.trans x9)) (by omega) (by omega)).trans (x11.trans x12)⟩
end Go.Proofs.Ytgipackjnncabaa
