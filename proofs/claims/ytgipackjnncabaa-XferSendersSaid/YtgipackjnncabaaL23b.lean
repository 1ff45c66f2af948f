/- The law XferSenders, walked. -/
import Derived.Test.YtgipackjnncabaaW23h
import Derived.Test.YtgipackjnncabaaL23a
set_option linter.unusedVariables false
namespace Go.Proofs.Ytgipackjnncabaa
open Go.Vc Go.RowKit

theorem own_pre {α : Type} {T : TypeId} {f : α → Value} {B : Nat} {w : World} {a : Option Addr} {c : Nat} {xs ys : List α} (h : Own T f B w a c (xs ++ ys)) : Own T f B w a c xs := by
  obtain ⟨h1, h2⟩ := h
  refine ⟨by simp, ?_⟩
  rcases h2 with ⟨h2, h3⟩ | ⟨g, cap, cur, hv, hB, hh, hn, hcm, hs, ht⟩
  · rw [List.length_append] at h3
    injection h2 with e1 e2 e3
    have : xs.length = 0 := by omega
    exact .inl ⟨by rw [e1, e3, this], this⟩
  · injection hv with e1 e2 e3
    rw [List.length_append] at hn
    refine .inr ⟨g, cap, cur, by rw [e1, e3], hB, hh, by omega, hcm, hs, ?_⟩
    simp only [Nat.mul_one, List.map_append, List.length_append] at ht ⊢
    have h4 := congrArg (List.take xs.length) ht
    rw [List.take_take, Nat.min_eq_left (by omega), List.take_left' (by rw [List.length_map])] at h4
    exact h4

/-- an event: its cells, and what they read as -/
structure Ev where
  tick : Bool
  raw : Bool
  b : List (BitVec 8)
  p : Pk
  ba : Option Addr
  bc : Nat
  pa : Option Addr
  pc : Nat
def Ev.cells (e : Ev) : List Value := [.bool e.tick, .bool e.raw, .slice e.ba e.b.length e.bc] ++ e.p.cells e.pa e.pc
structure EvOk (w : World) (e : Ev) : Prop where
  b : Sl u8v w e.ba e.b
  bc : e.b.length ≤ e.bc
  p : Sl u8v w e.pa e.p.data
  pc : e.p.data.length ≤ e.pc
theorem EvOk.ext {w w' : World} {e : Ev} (h : EvOk w e) (x : Ext w w') : EvOk w' e := ⟨h.b.ext x, h.bc, h.p.ext x, h.pc⟩

def bytesE (e : Ev) : List (BitVec 8) := if e.raw = true then e.b.take 3000 else (packF e.p).1

theorem pack_len (p : Pk) : (packF p).1.length ≤ 3000 := by
  unfold packF
  split
  · rename_i h
    show (sealF (bodyF p)).length ≤ 3000
    rw [sealF_len]
    rcases canP_cases h with ⟨e, _⟩ | ⟨e, _, h2⟩ | ⟨e, _⟩
    · rw [e]; simp [bodyF, enc_len]
    · have : (bodyF p).length = 6 + p.data.length := by rw [e]; simp [bodyF, enc_len]; omega
      omega
    · rw [e]; simp [bodyF, enc_len]
  · exact Nat.zero_le _

theorem bytesE_len (e : Ev) : (bytesE e).length ≤ 3000 := by
  unfold bytesE
  split
  · rw [List.length_take]; omega
  · exact pack_len _

/-- bytes -/
theorem evBytes_calls {w : World} (e : Ev) (h : EvOk w e) :
    Calls Try.prog 76 #[.agg e.cells.toArray] w (Ret fun v w' => ∃ a c, v = .slice a (bytesE e).length c ∧ Sl u8v w' a (bytesE e) ∧ (bytesE e).length ≤ c ∧ Ext w w') := by
  refine calls_of_vc lok Try.func76 ?_ rfl
  conv => whnf
  intro w1 hw1
  have hb1 : Blk w1 w.heap.size 72 e.cells := by rw [hw1]; exact Blk.new w 72 _
  have x1 : Ext w w1 := by rw [hw1]; exact Ext.new _ _
  clear hw1
  conv => whnf
  refine ⟨_, hb1.cell (i := 1) rfl, ?_⟩
  conv => whnf
  refine vcCond_split lok rfl (fun h1 => ?_) (fun h1 => ?_)
  · have er : bytesE e = e.b.take 3000 := if_pos h1
    have el : (bytesE e).length = min 3000 e.b.length := by rw [er, List.length_take]
    conv => whnf
    refine ⟨_, hb1.cell (i := 2) rfl, ?_⟩
    conv => whnf
    refine ⟨_, hb1.cell (i := 2) rfl, ?_⟩
    conv => whnf
    have e5 : (if (3000 : Int) < (e.b.length : Int) then (3000 : Int) else (e.b.length : Int)) = ((bytesE e).length : Int) := by rw [el]; split <;> omega
    rw [e5]
    have hbc := h.bc
    refine ⟨⟨by omega, by omega⟩, ?_⟩
    rw [Int.toNat_natCast]
    conv => whnf
    exact ⟨e.ba, e.bc, rfl, by rw [er]; exact (h.b.ext x1).take 3000, by omega, x1⟩
  · have er : bytesE e = (packF e.p).1 := if_neg (by rw [h1]; exact Bool.false_ne_true)
    conv => whnf
    refine ⟨e.p.cells e.pa e.pc, rfl, hb1.cellsAt 3 _ (fun i v hv => by rw [← hv]; exact (List.getElem?_append_right (Nat.le_add_right 3 i)).trans (by show (e.p.cells e.pa e.pc)[3 + i - 3]? = _; rw [show 3 + i - 3 = i by omega])), ?_⟩
    conv => whnf
    refine Calls.ret (rpack_calls e.p (h.p.ext x1)) ?_
    rintro _ w2 ⟨a2, c2, rfl, ho2, x2⟩
    conv => whnf
    rw [er]
    exact ⟨a2, c2, rfl, ho2.sl, ho2.le.1, x1.trans x2⟩

section
variable {T B : Nat} {w w' : World} {b c : Nat} {a : Option Addr} {s : SS}
theorem SnAt.keep (h : SnAt T B w b a c s) {row : Option Nat} (g : Gr w w' row) (h1 : row ≠ some b) (h2 : ∀ x, blockOf a = some x → row ≠ some x) : SnAt T B w' b a c s :=
  ⟨h.blk.keep (g.block _ h.blk.lt (fun e => h1 e.symm)), g.keepOwn h.own h2, h.lo, h.ne⟩
end

theorem fit_ev {w : World} {es : List Value} (h : Fit w (.st (.pair 1 .bool (.pair 1 .bool (.pair 1 (.slice 1 (.int .u8)) (.pair 7 (.st (.pair 1 (.int .i64) (.pair 1 (.int .u32) (.pair 1 (.int .i64) (.pair 1 (.int .i64) (.pair 1 (.int .i64) (.pair 1 (.int .u32) (.pair 1 (.slice 1 (.int .u8)) .unit)))))))) .unit))))) es) :
    ∃ e : Ev, es = e.cells ∧ EvOk w e := by
  obtain ⟨c1, r1, e1, _, ⟨n1, h1⟩, c2, r2, e2, _, ⟨n2, h2⟩, c3, r3, e3, _, h3, c4, r4, e4, _, h4, h5⟩ := h
  have h5 : r4 = [] := h5
  obtain ⟨a, len, cap, hs, hl1, hl2, hl3⟩ := h3
  have g := fit_u8 (w := w) (a := a) (len := len) (cap := cap) ⟨a, len, cap, rfl, hl1, hl2, hl3⟩
  obtain ⟨bs, eb, sb, cb⟩ := g
  have g := fit_pk h4
  obtain ⟨p, pa, pc, ep, sp, cp⟩ := g
  refine ⟨⟨n1, n2, bs, p, a, cap, pa, pc⟩, ?_, sb, by show bs.length ≤ cap; omega, sp, cp⟩
  rw [e1, e2, e3, e4, h1, h2, hs, ep, h5, ← eb, List.append_nil]
  rfl

/-- an event comes to a sender -/
def evS (s : SS) (e : Ev) : SS × List (BitVec 8) := if e.tick = true then tickF s else recvF s (bytesE e)

theorem take_same (s : SS) (p : Pk) : (takeF s p).ver = s.ver ∧ (takeF s p).data = s.data ∧ (takeF s p).wait = s.wait := by
  unfold takeF
  split
  · exact ⟨rfl, rfl, rfl⟩
  · split <;> exact ⟨rfl, rfl, rfl⟩
theorem evS_same (s : SS) (e : Ev) (hw : s.wait ≤ 9223372036854775807 ) (h0 : 0 ≤ s.wait) : (evS s e).1.ver = s.ver ∧ (evS s e).1.data = s.data ∧ 0 ≤ (evS s e).1.wait ∧ (evS s e).1.wait ≤ 9223372036854775807 := by
  unfold evS
  split
  · unfold tickF
    split
    · exact ⟨rfl, rfl, h0, hw⟩
    · split
      · exact ⟨rfl, rfl, by show 0 ≤ s.wait - 1; omega, by show s.wait - 1 ≤ _; omega⟩
      · exact ⟨rfl, rfl, by show (0 : Int) ≤ 4; decide, by show (4 : Int) ≤ _; decide⟩
  · unfold recvF
    have g := take_same s (unpackF (bytesE e)).1
    split
    · exact ⟨rfl, rfl, h0, hw⟩
    · split
      · exact ⟨g.1, g.2.1, by show (0 : Int) ≤ 4; decide, by show (4 : Int) ≤ _; decide⟩
      · exact ⟨g.1, g.2.1, by rw [g.2.2]; exact h0, by rw [g.2.2]; exact hw⟩

theorem out_len (s : SS) : (outF s).length ≤ 3000 := by
  unfold outF
  split
  · exact pack_len _
  · exact Nat.zero_le _
theorem evS_len (s : SS) (e : Ev) : (evS s e).2.length ≤ 3000 := by
  unfold evS
  split
  · unfold tickF
    split
    · exact Nat.zero_le _
    · split
      · exact Nat.zero_le _
      · exact out_len _
  · unfold recvF
    split
    · exact Nat.zero_le _
    · split
      · exact out_len _
      · exact Nat.zero_le _

/-- both senders, apart -/
structure TwoS (B : Nat) (w : World) (b : Nat) (a : Option Addr) (c : Nat) (b' : Nat) (a' : Option Addr) (c' : Nat) (s : SS) : Prop where
  f : SnAt 190 B w b a c s
  r : SnAt 136 B w b' a' c' s
  n1 : b ≠ b'
  n2 : ∀ g, blockOf a = some g → g ≠ b'
  n3 : ∀ g, blockOf a' = some g → g ≠ b
theorem TwoS.ext {B : Nat} {w w' : World} {b c b' c' : Nat} {a a' : Option Addr} {s : SS} (h : TwoS B w b a c b' a' c' s) (x : Ext w w') : TwoS B w' b a c b' a' c' s := ⟨h.f.ext x, h.r.ext x, h.n1, h.n2, h.n3⟩
theorem TwoS.lt {B : Nat} {w : World} {b c b' c' : Nat} {a a' : Option Addr} {s : SS} (h : TwoS B w b a c b' a' c' s) : B ≤ b ∧ b < w.heap.size ∧ B ≤ b' ∧ b' < w.heap.size ∧ (∀ g, blockOf a = some g → g < w.heap.size) ∧ ∀ g, blockOf a' = some g → g < w.heap.size :=
  ⟨h.f.lo, h.f.blk.lt, h.r.lo, h.r.blk.lt, fun g hg => (h.f.own.ge g hg).2, fun g hg => (h.r.own.ge g hg).2⟩

set_option maxHeartbeats 2000000 in
theorem xferSenders_walk {w : World} (ver : BitVec 32) {a la : Option Addr} {c lc : Nat} {bs : List (BitVec 8)} {es : List Ev} (h : Sl u8v w a bs) (hc : bs.length ≤ c) (hl : SlN 10 Ev.cells w la es) (hok : ∀ e ∈ es, EvOk w e) :
    Calls Try.prog 27 #[.int .u32 ver.toNat, .slice a bs.length c, .slice la es.length lc] w (Law w) := by
  refine calls_of_vc lok Try.func27 ?_ rfl
  conv => whnf
  refine vcCond_split lok rfl (fun h1 => ?_) (fun h1 => ?_)
  · conv => whnf
    refine Calls.ret (known23) ?_
    rintro _ w1 ⟨rfl, x1⟩
    conv => whnf
    exact ⟨rfl, x1⟩
  have h1 := df h1
  conv => whnf
  refine Calls.ret (lent_calls h (by omega)) ?_
  rintro _ w1 ⟨a1, c1, rfl, ho1, x1⟩
  conv => whnf
  have hs1 : Sl u8v w1 a1 bs := by simpa using ho1.sl.take bs.length
  have hc1 : bs.length + 1 ≤ c1 := by simpa using ho1.le.1
  refine Calls.ret (newSender_calls ver hs1 (by omega)) ?_
  rintro _ w2 hp
  conv => whnf
  rcases hp with ⟨hbad, rfl, hw2⟩ | ⟨hgood, b, a2, c2, rfl, hs2, x2⟩
  · subst hw2
    conv => whnf
    have g3 := rnewSender_calls (w := w2) (c := c) ver (h.ext x1) (by omega)
    rw [if_pos hbad] at g3
    refine Calls.ret (g3) ?_
    rintro _ w3 ⟨b, a3, c3, rfl, hs3, x3⟩
    conv => whnf
    refine vcReg_go lok ?_
    conv => whnf
    refine Calls.ret (kept_calls (ho1.ext x3).sl (h.ext (x1.trans x3)) hc1 (by omega)) ?_
    rintro _ w4 ⟨rfl, hw4⟩
    conv => whnf
    subst hw4
    conv => whnf
    refine vcCond_false lok (rfl) ?_
    conv => whnf
    have z1 := x1.size
    have z3 := x3.size
    refine Calls.ret (spoil_calls (own_pre (ho1.ext x3)) (by omega) (by omega)) ?_
    rintro _ w5 ⟨rfl, g5⟩
    conv => whnf
    have x5 : Ext w w5 := g5.extOf (x1.trans x3) (fun g hg => (ho1.ge g hg).1)
    conv => whnf
    refine vcLoop_inv lok (σ := Unit) (fun _ => [(12, .int .i64 0), (8, .pointer none), (10, .pointer (some ⟨b, 0, none⟩)), (2, .slice la es.length lc)]) (fun _ w6 => w6 = w5) (fun _ => 0) () ⟨rfl, rfl, rfl, rfl, trivial⟩ rfl ?_
    rintro _ w6 hw6
    subst hw6
    conv => whnf
    refine vcReg_meet lok (fun β : Bool => [(62, .bool β)]) (fun β w' => w' = w6 ∧ β = false) [62] (fun _ => rfl) rfl ?_ ?_
    · conv => whnf
      refine bcase (fun _ => ?_) (fun _ => ?_)
      · conv => whnf
        exact ⟨_, ⟨rfl, trivial⟩, rfl, rfl⟩
      · conv => whnf
        exact ⟨_, ⟨rfl, trivial⟩, rfl, rfl⟩
    rintro β w7 ⟨hw7, hβ⟩
    subst hw7 hβ
    conv => whnf
    refine vcCond_false lok (rfl) ?_
    conv => whnf
    refine Calls.ret (known23) ?_
    rintro _ w8 ⟨rfl, x8⟩
    conv => whnf
    exact ⟨rfl, x5.trans x8⟩
  · conv => whnf
    have g3 := rnewSender_calls (w := w2) (c := c) ver (h.ext (x1.trans x2)) (by omega)
    rw [if_neg hgood] at g3
    refine Calls.ret (g3) ?_
    rintro _ w3 ⟨b', a3, c3, rfl, hs3, x3⟩
    conv => whnf
    have x13 := x2.trans x3
    refine vcReg_go lok ?_
    conv => whnf
    refine Calls.ret (kept_calls (ho1.ext x13).sl (h.ext (x1.trans x13)) hc1 (by omega)) ?_
    rintro _ w4 ⟨rfl, hw4⟩
    conv => whnf
    subst hw4
    conv => whnf
    refine vcCond_false lok (rfl) ?_
    conv => whnf
    have z1 := x1.size
    have z2 := x2.size
    have z3 := x3.size
    have q2 := hs2.blk.lt
    have q2' := hs2.lo
    have q3' := hs3.lo
    refine Calls.ret (spoil_calls (own_pre (ho1.ext x13)) (by omega) (by omega)) ?_
    rintro _ w5 ⟨rfl, g5⟩
    conv => whnf
    have x5 : Ext w w5 := g5.extOf (x1.trans x13) (fun g hg => (ho1.ge g hg).1)
    have qo : ∀ g, blockOf a1 = some g → g < w1.heap.size := fun g hg => (ho1.ge g hg).2
    have t5 : TwoS w.heap.size w5 b a2 c2 b' a3 c3 ⟨ver, bs, 0#32, false, false, 0⟩ :=
      ⟨((hs2.ext x3).base z1).keep g5 (fun e => by have := qo _ e; omega) (fun g hg e => by have := qo _ e; have := (hs2.own.ge g hg).1; omega),
       (hs3.base (by omega)).keep g5 (fun e => by have := qo _ e; omega) (fun g hg e => by have := qo _ e; have := (hs3.own.ge g hg).1; omega),
       by omega, fun g hg e => by have := (hs2.own.ge g hg).2; omega, fun g hg e => by have := (hs3.own.ge g hg).1; omega⟩
    have hv : ver ≠ 0#32 := fun e => hgood (.inl e)
    have hl2 : bs.length ≤ 2048 := by
      rcases Nat.lt_or_ge 2048 bs.length with e | e
      · exact absurd (.inr (.inr e)) hgood
      · exact e
    conv => whnf
    refine vcLoop_inv lok (σ := Nat × SS) (fun ⟨i, s⟩ => [(12, .int .i64 i), (8, .pointer (some ⟨b, 0, none⟩)), (10, .pointer (some ⟨b', 0, none⟩)), (2, .slice la es.length lc)])
      (fun ⟨i, s⟩ w6 => i ≤ es.length ∧ TwoS w.heap.size w6 b a2 c2 b' a3 c3 s ∧ s.ver = ver ∧ s.data = bs ∧ (0 ≤ s.wait ∧ s.wait ≤ 9223372036854775807) ∧ Ext w w6) (fun t => es.length - t.1)
      (0, ⟨ver, bs, 0#32, false, false, 0⟩) ⟨rfl, rfl, rfl, rfl, trivial⟩ ⟨Nat.zero_le _, t5, rfl, rfl, ⟨by show (0 : Int) ≤ 0; decide, by show (0 : Int) ≤ _; decide⟩, x5⟩ ?_
    rintro ⟨i, s⟩ w6 ⟨hi, t6, hsv, hsd, ⟨hw0, hw1⟩, x6⟩
    conv => whnf
    refine vcReg_meet lok (fun β : Bool => [(62, .bool β)]) (fun β w' => w' = w6 ∧ β = decide (i < es.length ∧ i < 60)) [62] (fun _ => rfl) rfl ?_ ?_
    · conv => whnf
      refine bcase (fun h1 => ?_) (fun h1 => ?_)
      · have h1 := dt h1
        conv => whnf
        refine bcase (fun h2 => ?_) (fun h2 => ?_)
        · have h2 := dt h2
          conv => whnf
          exact ⟨_, ⟨rfl, trivial⟩, rfl, by rw [eq_comm, decide_eq_true_iff]; omega⟩
        · have h2 := df h2
          conv => whnf
          refine ⟨false, ⟨?_, trivial⟩, rfl, by rw [eq_comm, decide_eq_false_iff_not]; omega⟩
          rfl
      · have h1 := df h1
        conv => whnf
        exact ⟨_, ⟨rfl, trivial⟩, rfl, by rw [eq_comm, decide_eq_false_iff_not]; omega⟩
    rintro β w7 ⟨hw7, hβ⟩
    subst hw7
    conv => whnf
    refine vcCond_split lok rfl (fun h1 => ?_) (fun h1 => ?_)
    rotate_left
    · rw [h1] at hβ
      conv => whnf
      refine Calls.ret (known23) ?_
      rintro _ w8 ⟨rfl, x8⟩
      conv => whnf
      exact ⟨rfl, x6.trans x8⟩
    rw [h1] at hβ
    have hlt := dt hβ.symm
    have hix : i < es.length := hlt.1
    have he := (hok es[i] (List.getElem_mem hix)).ext x6
    conv => whnf
    have g7 := (hl.ext x6).at i hix
    have hmem := List.getElem_mem hix
    generalize hei : es[i] = e at *
    obtain ⟨lp, lo, ela, hcell⟩ := g7
    refine ⟨lp, lo, ela, ⟨by omega, by omega⟩, ?_⟩
    conv => whnf
    refine ⟨_, hcell 0 _ rfl, ?_⟩
    conv => whnf
    have k6 := t6.lt
    obtain ⟨k1, k2, k3, k4, k5, k7⟩ := k6
    have n1 := t6.n1
    have hsl : s.data.length ≤ 2048 := by rw [hsd]; exact hl2
    have hsn : s.ver ≠ 0#32 := by rw [hsv]; exact hv
    refine vcCond_meet (fun t : Option Addr × Nat × Option Addr × Nat => [(13, .slice t.1 (evS s e).2.length t.2.1), (14, .slice t.2.2.1 (evS s e).2.length t.2.2.2), (12, .int .i64 i), (8, .pointer (some ⟨b, 0, none⟩)), (10, .pointer (some ⟨b', 0, none⟩)), (2, .slice la es.length lc)])
      (fun t w8 => Own 5 u8v w7.heap.size w8 t.1 t.2.1 (evS s e).2 ∧ Sl u8v w8 t.2.2.1 (evS s e).2 ∧ w7.heap.size ≤ w8.heap.size ∧ TwoS w.heap.size w8 b a2 c2 b' a3 c3 (evS s e).1 ∧ Ext w w8) ?_ ?_
    · refine vcCond_split lok rfl (fun h2 => ?_) (fun h2 => ?_)
      · have ee : evS s e = tickF s := if_pos h2
        rw [ee]
        conv => whnf
        refine Calls.ret (tick_calls t6.f hsl hw1) ?_
        rintro _ w8 ⟨a8, c8, rfl, ho8, hf8, g8⟩
        conv => whnf
        have r8 := t6.r.keep g8 (fun q => by have q' := Option.some.inj q; omega) (fun g hg q => t6.n3 g hg (Option.some.inj q).symm)
        refine Calls.ret (rtick_calls r8 hsl hw1 hsn) ?_
        rintro _ w9 ⟨a9, c9, rfl, ho9, hr9, g9⟩
        conv => whnf
        exact ⟨(a8, c8, a9, c9), ⟨rfl, rfl, rfl, rfl, rfl, rfl, trivial⟩, g9.keepOwn ho8 (fun g hg q => by have q' := Option.some.inj q; have := (ho8.ge g hg).1; omega), ho9.sl, Nat.le_trans g8.size g9.size,
          ⟨hf8.keep g9 (fun q => by have q' := Option.some.inj q; omega) (fun g hg q => t6.n2 g hg (Option.some.inj q).symm), hr9, t6.n1, t6.n2, t6.n3⟩,
          g9.extOf (g8.extOf x6 (fun g hg => by cases hg; exact k1)) (fun g hg => by cases hg; exact k3)⟩
      · have ee : evS s e = recvF s (bytesE e) := if_neg (by rw [h2]; exact Bool.false_ne_true)
        rw [ee]
        have hbl := bytesE_len e
        conv => whnf
        refine ⟨lp, lo, ela, ⟨by omega, by omega⟩, ?_⟩
        conv => whnf
        refine ⟨e.cells, rfl, hcell, ?_⟩
        conv => whnf
        refine Calls.ret (evBytes_calls e he) ?_
        rintro _ w8 ⟨a8, c8, rfl, hs8, hc8, x8⟩
        conv => whnf
        have t8 := t6.ext x8
        have z8 := x8.size
        refine Calls.ret (recv_calls t8.f hsl hsn hs8 (by omega) hc8) ?_
        rintro _ w9 ⟨a9, c9, rfl, ho9, hf9, g9⟩
        conv => whnf
        have x9 : Ext w w9 := g9.extOf (x6.trans x8) (fun g hg => by cases hg; exact k1)
        have r9 := t8.r.keep g9 (fun q => by have q' := Option.some.inj q; omega) (fun g hg q => t6.n3 g hg (Option.some.inj q).symm)
        have z9 := g9.size
        refine ⟨lp, lo, ela, ⟨by omega, by omega⟩, ?_⟩
        conv => whnf
        have he9 := (hok e hmem).ext x9
        have hcell9 : CellsAt w9 lp (lo + i * 10) e.cells := by
          have g7 := (hl.ext x9).at i hix
          rw [hei] at g7
          obtain ⟨lp', lo', ela', hc'⟩ := g7
          rw [ela] at ela'
          cases ela'
          exact hc'
        refine ⟨e.cells, rfl, hcell9, ?_⟩
        conv => whnf
        refine Calls.ret (evBytes_calls e he9) ?_
        rintro _ w10 ⟨a10, c10, rfl, hs10, hc10, x10⟩
        conv => whnf
        have z10 := x10.size
        refine Calls.ret (rrecv_calls (r9.ext x10) hsl hs10 (by omega) hc10) ?_
        rintro _ w11 ⟨a11, c11, rfl, ho11, hr11, g11⟩
        conv => whnf
        exact ⟨(a9, c9, a11, c11), ⟨rfl, rfl, rfl, rfl, rfl, rfl, trivial⟩, (g11.keepOwn (ho9.ext x10) (fun g hg q => by have q' := Option.some.inj q; have := (ho9.ge g hg).1; omega)).base z8, ho11.sl, Nat.le_trans (Nat.le_trans z8 z9) (Nat.le_trans z10 g11.size),
          ⟨(hf9.ext x10).keep g11 (fun q => by have q' := Option.some.inj q; omega) (fun g hg q => t6.n2 g hg (Option.some.inj q).symm), hr11, t6.n1, t6.n2, t6.n3⟩,
          g11.extOf (x9.trans x10) (fun g hg => by cases hg; exact k3)⟩
    rintro ⟨a8, c8, a9, c9⟩ w8 ⟨ho8, hs9, hz78, t8, x8⟩
    have ho8 : Own 5 u8v w7.heap.size w8 a8 c8 (evS s e).2 := ho8
    have hs9 : Sl u8v w8 a9 (evS s e).2 := hs9
    have hsm := evS_same s e hw1 hw0
    have hel := evS_len s e
    obtain ⟨m1, m2, m3, m4⟩ := hsm
    have z6 := x6.size
    have k6 := t8.lt
    generalize hq : evS s e = q at *
    obtain ⟨t, out⟩ := q
    simp only at ho8 hs9 t8 m1 m2 m3 m4 hel
    conv => whnf
    refine vcDraw_meet lok mixed (Ext w8) [7] [0, 1, 2, 3, 4, 5, 6, 8, 9, 10, 11, 7, 12, 13]
      (fun _ : Unit => [(101, .bool false)]) (fun _ w' => Ext w8 w') [101] (fun _ => rfl) rfl (by kernel_rfl) (fun w9 hw9 => ⟨hw9 ▸ Ext.drew w8, ?_⟩) ?_
    · have x9 : Ext w8 w9 := hw9 ▸ Ext.drew w8
      conv => whnf
      refine ⟨_, fun w' hw' => run_toStr (ho8.sl.ext hw'), ?_⟩
      conv => whnf
      refine ⟨_, fun w' hw' => run_toStr (hs9.ext hw'), ?_⟩
      conv => whnf
      intro γ hγ
      have hγ2 : γ = true := by rw [str_eq hγ rfl rfl]; simp
      clear hγ
      subst hγ2
      conv => whnf
      refine ⟨_, fun w' hw' => (t8.r.ext hw').blk.cell (i := 4) rfl, ?_⟩
      conv => whnf
      refine Calls.ret (done_calls (t8.f.ext x9)) ?_
      rintro _ w10 ⟨rfl, hw10⟩
      conv => whnf
      subst hw10
      refine ⟨_, fun _ h => h, x9, ?_⟩
      conv => whnf
      refine ⟨(), ⟨?_, trivial⟩, x9⟩
      cases t.done <;> rfl
    rintro _ w9 x9
    conv => whnf
    refine vcCond_false lok (rfl) ?_
    conv => whnf
    have z8 := x8.size
    have z9 := x9.size
    have z78 : w7.heap.size ≤ w8.heap.size := hz78
    refine Calls.ret (spoil_calls (bs := out) (ho8.ext x9) (by omega) (by omega)) ?_
    rintro _ w10 ⟨rfl, g10⟩
    conv => whnf
    obtain ⟨j1, j2, j3, j4, j5, j6⟩ := k6
    have qo : ∀ g, blockOf a8 = some g → w7.heap.size ≤ g := fun g hg => (ho8.ge g hg).1
    have t9 := t8.ext x9
    conv => whnf
    refine ⟨by omega, ?_⟩
    conv => whnf
    refine ⟨(i + 1, t), ⟨rfl, rfl, rfl, rfl, trivial⟩, ⟨by omega, ⟨t9.f.keep g10 (fun q => by have := qo _ q; omega) (fun g hg q => by have := qo _ q; have := k5 g hg; omega), t9.r.keep g10 (fun q => by have := qo _ q; omega) (fun g hg q => by have := qo _ q; have := k7 g hg; omega), t6.n1, t6.n2, t6.n3⟩, m1.trans hsv, m2.trans hsd, ⟨m3, m4⟩, g10.extOf (x8.trans x9) (fun g hg => by have := qo _ hg; omega)⟩, by omega⟩
end Go.Proofs.Ytgipackjnncabaa
