/- Walks of layer 7, third part: a journal is opened; its last record. -/
import Derived.Test.YtgipackjnncabaaW07b
import Derived.Test.YtgipackjnncabaaVcT
set_option linter.unusedVariables false
namespace Go.Proofs.Ytgipackjnncabaa
open Go.Vc Go.RowKit

/-- a record that owns a row, at block p; N: blocks that the row is none of -/
structure JRec (T : TypeId) (cells : Option Addr → Nat → List Value) (N : Nat → Prop) (B : Nat) (w : World) (p : Nat) (xs : List (BitVec 32)) : Prop where
  ex : ∃ ra rc, Blk w p T (cells ra rc) ∧ Own 42 u32v B w ra rc xs ∧ ∀ b, blockOf ra = some b → ¬ N b
  lo : B ≤ p
  nt : ∀ k, N k → k < w.heap.size
  self : N p
theorem JRec.ext {T : TypeId} {cells : Option Addr → Nat → List Value} {N : Nat → Prop} {B : Nat} {w w' : World} {p : Nat} {xs : List (BitVec 32)} (h : JRec T cells N B w p xs) (x : Ext w w') : JRec T cells N B w' p xs := by
  obtain ⟨⟨ra, rc, h1, h2, h3⟩, h4, h5, h6⟩ := h
  exact ⟨⟨ra, rc, h1.ext x, h2.ext x, h3⟩, h4, fun k hk => Nat.lt_of_lt_of_le (h5 k hk) x.size, h6⟩
theorem JRec.widen {T : TypeId} {cells : Option Addr → Nat → List Value} {N N' : Nat → Prop} {B : Nat} {w w' : World} {p : Nat} {xs : List (BitVec 32)} (h : JRec T cells N B w p xs) (x : Ext w w')
    (h1 : ∀ k, N' k → N k ∨ w.heap.size ≤ k) (h2 : ∀ k, N' k → k < w'.heap.size) (h3 : N' p) : JRec T cells N' B w' p xs := by
  obtain ⟨⟨ra, rc, k1, k2, k3⟩, k4, k5, k6⟩ := h
  refine ⟨⟨ra, rc, k1.ext x, k2.ext x, fun b hb hn => ?_⟩, k4, h2, h3⟩
  rcases h1 b hn with q | q
  · exact k3 b hb q
  · have := (k2.ge b hb).2; omega
theorem JRec.base {T : TypeId} {cells : Option Addr → Nat → List Value} {N : Nat → Prop} {B B' : Nat} {w : World} {p : Nat} {xs : List (BitVec 32)} (h : JRec T cells N B w p xs) (hB : B' ≤ B) : JRec T cells N B' w p xs := by
  obtain ⟨⟨ra, rc, k1, k2, k3⟩, k4, k5, k6⟩ := h
  exact ⟨⟨ra, rc, k1, k2.base hB, k3⟩, Nat.le_trans hB k4, k5, k6⟩
/-- what others write leaves it -/
theorem JRec.keep {T : TypeId} {cells : Option Addr → Nat → List Value} {N S : Nat → Prop} {B : Nat} {w w' : World} {p : Nat} {xs : List (BitVec 32)} (h : JRec T cells N B w p xs) (m : Mod S w w') (hS : ∀ k, S k → N k) (hp : ¬ S p) : JRec T cells N B w' p xs := by
  obtain ⟨⟨ra, rc, k1, k2, k3⟩, k4, k5, k6⟩ := h
  exact ⟨⟨ra, rc, m.keepBlk k1 hp, m.keepOwn k2 (fun g hg hs => k3 g hg (hS g hs)), k3⟩, k4, fun k hk => Nat.lt_of_lt_of_le (k5 k hk) m.size, k6⟩

/-- a journal's cells -/
def jC (g : Nat) (n c e : Nat) (cl : Bool) (q : BitVec 32) (d : Bool) (rn : Nat) (ra : Option Addr) (rc : Nat) : List Value :=
  [.pointer (some ⟨g, 0, none⟩), .int .i64 n, .int .i64 c, .int .i64 e, .bool cl, u32v q, .slice ra rn rc, .bool d]
def JS.cells (j : JS) (g : Nat) : Option Addr → Nat → List Value := jC g j.sec j.cur j.end_ j.clean j.num j.dead j.words.length
abbrev JAt (N : Nat → Prop) (B : Nat) (w : World) (p g : Nat) (j : JS) : Prop := JRec 128 (j.cells g) N B w p j.words

theorem built128 (a : Option Addr) (n : Int) : Try.prog.built 128 [(0, .pointer a), (1, .int .i64 n)] = some #[.pointer a, .int .i64 n, .int .i64 0, .int .i64 0, .bool false, .int .u32 0, .slice none 0 0, .bool false] := by kernel_rfl

/-- what two sectors told, in two blocks -/
def TwoF (w0 : World) (RA RB : Option Addr → List (BitVec 32) → Prop) (A B : Told) (a8 a9 : Nat) (w : World) : Prop :=
  ∃ rA cA rB cB, Blk w a8 206 (foundC A.number rA A.words.length cA A.end_ A.clean) ∧ Blk w a9 206 (foundC B.number rB B.words.length cB B.end_ B.clean) ∧ a8 ≠ a9 ∧ w0.heap.size ≤ a8 ∧ w0.heap.size ≤ a9 ∧ RA rA A.words ∧ RB rB B.words ∧ Ext w0 w
theorem sl_lt {w : World} {a : Option Addr} {xs : List (BitVec 32)} (h : Sl u32v w a xs) (hx : xs ≠ []) : ∃ b o, a = some ⟨b, o, none⟩ ∧ b < w.heap.size := by
  have g := h.at 0 (Int.le_refl _) (by have := List.length_pos_iff.2 hx; omega)
  obtain ⟨b, o, ha, hc⟩ := g
  exact ⟨b, o, ha, cell_lt hc⟩
theorem found_two {w0 w : World} {a8 a9 : Nat} {A B : Told} {rA rB : Option Addr} {cA cB : Nat} (x : Ext w0 w) (b8 : Blk w a8 206 (foundC 0#32 none 0 0 0 false)) (b9 : Blk w a9 206 (foundC 0#32 none 0 0 0 false)) (n : a8 ≠ a9)
    (h8 : w0.heap.size ≤ a8) (h9 : w0.heap.size ≤ a9) {RA RB : Option Addr → List (BitVec 32) → Prop} (hA : RA rA A.words) (hB : RB rB B.words) :
    ∃ w1, (Instr.storeAt 206 (.pointer (some ⟨a8, 0, none⟩)) (.agg (foundC A.number rA A.words.length cA A.end_ A.clean).toArray)).run Try.prog w = .ok () w1 ∧
      ∃ w2, (Instr.storeAt 206 (.pointer (some ⟨a9, 0, none⟩)) (.agg (foundC B.number rB B.words.length cB B.end_ B.clean).toArray)).run Try.prog w1 = .ok () w2 ∧ TwoF w0 RA RB A B a8 a9 w2 := by
  have k1 := Blk.storeAgg lok b8 (t := 206) (us := foundC A.number rA A.words.length cA A.end_ A.clean) rfl 0 (Nat.le_refl 4) (foundC_one _ _ _ _ _ _)
  obtain ⟨w1, hr1, hb1, g1⟩ := k1
  have hb1 : Blk w1 a8 206 (foundC A.number rA A.words.length cA A.end_ A.clean) := hb1
  have b91 := b9.keep (g1.block a9 b9.lt (fun e => n (Option.some.inj e).symm))
  have k2 := Blk.storeAgg lok b91 (t := 206) (us := foundC B.number rB B.words.length cB B.end_ B.clean) rfl 0 (Nat.le_refl 4) (foundC_one _ _ _ _ _ _)
  obtain ⟨w2, hr2, hb2, g2⟩ := k2
  have hb2 : Blk w2 a9 206 (foundC B.number rB B.words.length cB B.end_ B.clean) := hb2
  have m1 : Mod (fun k => k = a8 ∨ k = a9) w w1 := Mod.ofGr g1 fun k hk => .inl (Option.some.inj hk).symm
  have m2 : Mod (fun k => k = a8 ∨ k = a9) w w2 := m1.trans (Mod.ofGr g2 fun k hk => .inr (Option.some.inj hk).symm)
  refine ⟨w1, hr1, w2, hr2, rA, cA, rB, cB, hb1.keep (g2.block a8 hb1.lt (fun e => n (Option.some.inj e))), hb2, n, h8, h9, hA, hB, ?_⟩
  exact m2.above x fun k hk => by rcases hk with rfl | rfl <;> assumption


def OpenPost (g : Nat) (s : FS) (n : Int) (w : World) (v : Value) (w' : World) : Prop :=
  (s.off = true ∧ v = .tuple #[.pointer none, .int .i64 7] ∧ Ext w w') ∨
  (s.off = false ∧ ¬ (0 ≤ n ∧ 256 * (n + 2) ≤ s.ws.length) ∧ v = .tuple #[.pointer none, .int .i64 10] ∧ Ext w w') ∨
  (s.off = false ∧ 0 ≤ n ∧ 256 * (n + 2) ≤ s.ws.length ∧ ∃ p, v = .tuple #[.pointer (some ⟨p, 0, none⟩), .int .i64 0] ∧ JAt (fun k => k < w.heap.size ∨ k = p) w.heap.size w' p g (jopF s.ws n.toNat) ∧ Ext w w')

theorem OpenPost.mk {g : Nat} {s : FS} {n : Int} {w w' : World} (h1 : s.off = false) (h2 : 0 ≤ n) (h3 : 256 * (n + 2) ≤ s.ws.length) {p : Nat} (h4 : JAt (fun k => k < w.heap.size ∨ k = p) w.heap.size w' p g (jopF s.ws n.toNat)) (h5 : Ext w w') :
    OpenPost g s n w (.tuple #[.pointer (some ⟨p, 0, none⟩), .int .i64 0]) w' := .inr (.inr ⟨h1, h2, h3, p, rfl, h4, h5⟩)
set_option maxHeartbeats 4000000 in
theorem jopen_calls {B : Nat} {w : World} {g gw c : Nat} {s : FS} (h : FlAt 181 B w g gw c s) (hl : s.ws.length ≤ 65536) (n : Int) :
    Calls Try.prog 111 #[.pointer (some ⟨g, 0, none⟩), .int .i64 n] w (Ret (OpenPost g s n w)) := by
  refine calls_of_vc lok Try.func111 ?_ rfl
  conv => whnf
  refine vcCond_false lok (rfl) ?_
  conv => whnf
  refine Calls.ret (fon_calls h) ?_
  rintro _ w1 ⟨rfl, rfl⟩
  conv => whnf
  refine vcCond_split lok rfl (fun h1 => ?_) (fun h1 => ?_)
  · conv => whnf
    exact .inl ⟨by simpa using h1, rfl, Ext.refl _⟩
  have hoff : s.off = false := by simpa using h1
  clear h1
  conv => whnf
  refine vcReg_meet lok (fun β : Bool => [(17, .bool β)]) (fun β w' => w' = w1 ∧ β = !decide (0 ≤ n ∧ 256 * (n + 2) ≤ s.ws.length)) [17] (fun _ => rfl) rfl ?_ ?_
  · conv => whnf
    refine bcase (fun k1 => ?_) (fun k1 => ?_)
    · have k1 := dt k1
      conv => whnf
      exact ⟨_, ⟨rfl, trivial⟩, rfl, by rw [decide_eq_false (by omega)]; rfl⟩
    have k1 := df k1
    conv => whnf
    refine Calls.ret (len_calls h) ?_
    rintro _ w2 ⟨rfl, rfl⟩
    conv => whnf
    refine ⟨by decide, ?_⟩
    intro z hz
    have hz11 : z = ((s.ws.length / 256 : Nat) : Int) := by rw [hz]; exact quo256 _ (by omega)
    clear hz
    subst hz11
    conv => whnf
    refine ⟨by omega, ?_⟩
    conv => whnf
    refine ⟨_, ⟨rfl, trivial⟩, rfl, ?_⟩
    by_cases k2 : 256 * (n + 2) ≤ s.ws.length
    · rw [decide_eq_false (by omega), decide_eq_true ⟨by omega, k2⟩]; rfl
    · rw [decide_eq_true (by omega), decide_eq_false (fun q => k2 q.2)]; rfl
  rintro β w2 ⟨hw2, hβ⟩
  subst hw2
  conv => whnf
  refine vcCond_split lok rfl (fun h2 => ?_) (fun h2 => ?_)
  · subst h2
    conv => whnf
    refine .inr (.inl ⟨hoff, fun q => ?_, rfl, Ext.refl _⟩)
    rw [decide_eq_true q] at hβ; cases hβ
  subst h2
  have hn : 0 ≤ n ∧ 256 * (n + 2) ≤ s.ws.length := by
    by_cases q : 0 ≤ n ∧ 256 * (n + 2) ≤ s.ws.length
    · exact q
    · rw [decide_eq_false q] at hβ; cases hβ
  clear hβ
  obtain ⟨m, rfl⟩ := Int.eq_ofNat_of_zero_le hn.1
  conv => whnf
  refine ⟨_, fun w => run_build w 128 _ _ (built128 _ _), ?_⟩
  conv => whnf
  intro w3 hw3
  have hp3 : Blk w3 w2.heap.size 128 (jC g m 0 0 false 0#32 false 0 none 0) := by rw [hw3]; exact Blk.new w2 128 _
  have x3 : Ext w2 w3 := by rw [hw3]; exact Ext.new _ _
  clear hw3
  have hn3 : ∀ k, (k < w2.heap.size ∨ k = w2.heap.size) → k < w3.heap.size := fun k hk => by have := hp3.lt; omega
  generalize hp : w2.heap.size = p at *
  conv => whnf
  refine Calls.ret (fwords_calls (h.ext x3) (by omega)) ?_
  rintro _ w7 ⟨a7, c7, rfl, ho7, x7⟩
  conv => whnf
  refine ⟨by omega, ?_⟩
  conv => whnf
  have hcl := ho7.le
  have hcm : maxLen ≤ 9223372036854775807 := by decide
  refine ⟨⟨by omega, by omega, by omega⟩, ?_⟩
  intro d hd
  have hsd := fun (w0 : World) (h0 : Sl u32v w0 a7 s.ws) => h0.drop (256 * m) c7 hcl.1
  have em : ((m : Int) * 256).toNat = 256 * m := by omega
  rw [em] at hd ⊢
  rw [← hd] at hsd
  clear hd em
  have hsd : SubSl a7 s.ws d (s.ws.drop (256 * m)) := hsd
  have hdl : (s.ws.drop (256 * m)).length = s.ws.length - 256 * m := List.length_drop
  rw [← hdl]
  have hA0 : secF s.ws m = (s.ws.drop (256 * m)).take 256 := rfl
  have hB0 : secF s.ws (m + 1) = ((s.ws.drop (256 * m)).drop 256).take (512 - 256) := by unfold secF; rw [List.drop_drop]; congr 2
  have lA : (secF s.ws m).length = 256 := secF_len (by omega)
  have lB : (secF s.ws (m + 1)).length = 256 := secF_len (by omega)
  have hJ : jopF s.ws m = if (tellF (secF s.ws m)).number.toNat < (tellF (secF s.ws (m + 1))).number.toNat then mkJ m 1 (tellF (secF s.ws (m + 1))) else mkJ m 0 (tellF (secF s.ws m)) := rfl
  generalize secF s.ws m = sA at *
  generalize secF s.ws (m + 1) = sB at *
  generalize s.ws.drop (256 * m) = dd at *
  have hcd : dd.length ≤ c7 - 256 * m := by omega
  have hcd2 : c7 - 256 * m ≤ 9223372036854775807 := by omega
  generalize c7 - 256 * m = cd at *
  conv => whnf
  have hp7 := hp3.ext x7
  have x27 := x3.trans x7
  refine vcDrawT_meet lok mixed (fun _ => True) [] (.one 0 (.one 1 (.one 3 (.one 4 (.alt 2 (.alt 5 (.alt 6 (.one 7 (.one 8 (.one 9 .fin))) (.alt 7 (.one 6 (.one 8 (.one 9 .fin))) (.nope))) (.alt 6 (.alt 5 (.one 7 (.one 8 (.one 9 .fin))) (.alt 7 (.one 5 (.one 8 (.one 9 .fin))) (.nope))) (.alt 7 (.alt 5 (.one 6 (.one 8 (.one 9 .fin))) (.alt 6 (.one 5 (.one 8 (.one 9 .fin))) (.nope))) (.nope)))) (.alt 6 (.alt 2 (.alt 5 (.one 7 (.one 8 (.one 9 .fin))) (.alt 7 (.one 5 (.one 8 (.one 9 .fin))) (.nope))) (.alt 7 (.one 2 (.one 5 (.one 8 (.one 9 .fin)))) (.nope))) (.alt 7 (.alt 2 (.alt 5 (.one 6 (.one 8 (.one 9 .fin))) (.alt 6 (.one 5 (.one 8 (.one 9 .fin))) (.nope))) (.alt 6 (.one 2 (.one 5 (.one 8 (.one 9 .fin)))) (.nope))) (.nope)))))))) (fun t : Nat × Nat => [(8, .pointer (some ⟨t.1, 0, none⟩)), (9, .pointer (some ⟨t.2, 0, none⟩))]) (fun t w' => TwoF w7 (SubSl a7 s.ws) (SubSl a7 s.ws) (tellF sA) (tellF sB) t.1 t.2 w') [8, 9] (fun _ => rfl) rfl (by kernel_rfl) (fun w8 hw8 => ⟨trivial, ?_⟩) ?_
  · have x8 : Ext w7 w8 := hw8 ▸ Ext.drew w7
    clear hw8
    conv => whnf
    refine ⟨⟨by omega, by omega⟩, ?_⟩
    have hsA : SubSl a7 s.ws d sA := fun w0 h0 => by have g := (hsd w0 h0).take 256; rw [← hA0] at g; exact g
    rw [show (256 : Int).toNat = sA.length from lA.symm]
    conv => whnf
    refine ⟨⟨by omega, by omega, by omega⟩, ?_⟩
    intro b hb
    have hsB : SubSl a7 s.ws b sB := fun w0 h0 => by
      have g := ((hsd w0 h0).drop 256 cd hcd).take (512 - 256)
      rw [← hB0] at g
      have hb2 : b = if cd = 256 then d else d.map (·.add (256 * 1)) := hb
      rw [← hb2] at g
      exact g
    clear hb
    rw [show (512 : Int).toNat - (256 : Int).toNat = sB.length from lB.symm]
    have hcA : sA.length ≤ cd := by omega
    have hcB : sB.length ≤ cd - (256 : Int).toNat := by have : (256 : Int).toNat = 256 := rfl; omega
    have hmB : cd - (256 : Int).toNat ≤ 9223372036854775807 := by omega
    generalize cd - (256 : Int).toNat = ce at *
    conv => whnf
    refine ⟨?_, ?_⟩
    · skip
      -- 2
      refine Calls.ret (look_calls (hsA _ (ho7.ext x8).sl) (by omega) hcA hcd2) ?_
      rintro _ w9 ⟨rA, cA, rfl, hA, y9⟩
      conv => whnf
      have x9 := x8.trans y9
      refine ⟨?_, ?_⟩
      · skip
        -- 5
        refine Calls.ret (look_calls (hsB _ (ho7.ext x9).sl) (by omega) hcB hmB) ?_
        rintro _ w10 ⟨rB, cB, rfl, hB, y10⟩
        conv => whnf
        have x10 := x9.trans y10
        refine ⟨?_, ?_⟩
        · skip
          -- 6
          intro w11 hw11
          have b8 : Blk w11 w10.heap.size 206 (foundC 0#32 none 0 0 0 false) := by rw [hw11]; exact Blk.new w10 206 _
          have y11 : Ext w10 w11 := by rw [hw11]; exact Ext.new _ _
          have h8 : w7.heap.size ≤ w10.heap.size := x10.size
          generalize w10.heap.size = a8 at *
          clear hw11
          conv => whnf
          have x11 := x10.trans y11
          -- 7
          intro w12 hw12
          have b9 : Blk w12 w11.heap.size 206 (foundC 0#32 none 0 0 0 false) := by rw [hw12]; exact Blk.new w11 206 _
          have y12 : Ext w11 w12 := by rw [hw12]; exact Ext.new _ _
          have h9 : w7.heap.size ≤ w11.heap.size := x11.size
          have n89 : a8 ≠ w11.heap.size := fun e => by have := b8.lt; omega
          generalize w11.heap.size = a9 at *
          clear hw12
          conv => whnf
          have x12 := x11.trans y12
          replace b8 := b8.ext y12
          have ft := found_two (cA := cA) (cB := cB) x12 b8 b9 n89 h8 h9 (RA := SubSl a7 s.ws) (RB := SubSl a7 s.ws) (fun w0 h0 => hA w0 (hsA w0 h0)) (fun w0 h0 => hB w0 (hsB w0 h0))
          obtain ⟨w13, hr13, w14, hr14, ht⟩ := ft
          refine ⟨w13, hr13, ?_⟩
          conv => whnf
          refine ⟨w14, hr14, ?_⟩
          exact ⟨(a8, a9), ⟨rfl, rfl, trivial⟩, ht⟩
        refine ⟨?_, ?_⟩
        · skip
          -- 7
          intro w11 hw11
          have b9 : Blk w11 w10.heap.size 206 (foundC 0#32 none 0 0 0 false) := by rw [hw11]; exact Blk.new w10 206 _
          have y11 : Ext w10 w11 := by rw [hw11]; exact Ext.new _ _
          have h9 : w7.heap.size ≤ w10.heap.size := x10.size
          generalize w10.heap.size = a9 at *
          clear hw11
          conv => whnf
          have x11 := x10.trans y11
          -- 6
          intro w12 hw12
          have b8 : Blk w12 w11.heap.size 206 (foundC 0#32 none 0 0 0 false) := by rw [hw12]; exact Blk.new w11 206 _
          have y12 : Ext w11 w12 := by rw [hw12]; exact Ext.new _ _
          have h8 : w7.heap.size ≤ w11.heap.size := x11.size
          have n89 : w11.heap.size ≠ a9 := fun e => by have := b9.lt; omega
          generalize w11.heap.size = a8 at *
          clear hw12
          conv => whnf
          have x12 := x11.trans y12
          replace b9 := b9.ext y12
          have ft := found_two (cA := cA) (cB := cB) x12 b8 b9 n89 h8 h9 (RA := SubSl a7 s.ws) (RB := SubSl a7 s.ws) (fun w0 h0 => hA w0 (hsA w0 h0)) (fun w0 h0 => hB w0 (hsB w0 h0))
          obtain ⟨w13, hr13, w14, hr14, ht⟩ := ft
          refine ⟨w13, hr13, ?_⟩
          conv => whnf
          refine ⟨w14, hr14, ?_⟩
          exact ⟨(a8, a9), ⟨rfl, rfl, trivial⟩, ht⟩
        trivial
      refine ⟨?_, ?_⟩
      · skip
        -- 6
        intro w10 hw10
        have b8 : Blk w10 w9.heap.size 206 (foundC 0#32 none 0 0 0 false) := by rw [hw10]; exact Blk.new w9 206 _
        have y10 : Ext w9 w10 := by rw [hw10]; exact Ext.new _ _
        have h8 : w7.heap.size ≤ w9.heap.size := x9.size
        generalize w9.heap.size = a8 at *
        clear hw10
        conv => whnf
        have x10 := x9.trans y10
        refine ⟨?_, ?_⟩
        · skip
          -- 5
          refine Calls.ret (look_calls (hsB _ (ho7.ext x10).sl) (by omega) hcB hmB) ?_
          rintro _ w11 ⟨rB, cB, rfl, hB, y11⟩
          conv => whnf
          have x11 := x10.trans y11
          replace b8 := b8.ext y11
          -- 7
          intro w12 hw12
          have b9 : Blk w12 w11.heap.size 206 (foundC 0#32 none 0 0 0 false) := by rw [hw12]; exact Blk.new w11 206 _
          have y12 : Ext w11 w12 := by rw [hw12]; exact Ext.new _ _
          have h9 : w7.heap.size ≤ w11.heap.size := x11.size
          have n89 : a8 ≠ w11.heap.size := fun e => by have := b8.lt; omega
          generalize w11.heap.size = a9 at *
          clear hw12
          conv => whnf
          have x12 := x11.trans y12
          replace b8 := b8.ext y12
          have ft := found_two (cA := cA) (cB := cB) x12 b8 b9 n89 h8 h9 (RA := SubSl a7 s.ws) (RB := SubSl a7 s.ws) (fun w0 h0 => hA w0 (hsA w0 h0)) (fun w0 h0 => hB w0 (hsB w0 h0))
          obtain ⟨w13, hr13, w14, hr14, ht⟩ := ft
          refine ⟨w13, hr13, ?_⟩
          conv => whnf
          refine ⟨w14, hr14, ?_⟩
          exact ⟨(a8, a9), ⟨rfl, rfl, trivial⟩, ht⟩
        refine ⟨?_, ?_⟩
        · skip
          -- 7
          intro w11 hw11
          have b9 : Blk w11 w10.heap.size 206 (foundC 0#32 none 0 0 0 false) := by rw [hw11]; exact Blk.new w10 206 _
          have y11 : Ext w10 w11 := by rw [hw11]; exact Ext.new _ _
          have h9 : w7.heap.size ≤ w10.heap.size := x10.size
          have n89 : a8 ≠ w10.heap.size := fun e => by have := b8.lt; omega
          generalize w10.heap.size = a9 at *
          clear hw11
          conv => whnf
          have x11 := x10.trans y11
          replace b8 := b8.ext y11
          -- 5
          refine Calls.ret (look_calls (hsB _ (ho7.ext x11).sl) (by omega) hcB hmB) ?_
          rintro _ w12 ⟨rB, cB, rfl, hB, y12⟩
          conv => whnf
          have x12 := x11.trans y12
          replace b8 := b8.ext y12
          replace b9 := b9.ext y12
          have ft := found_two (cA := cA) (cB := cB) x12 b8 b9 n89 h8 h9 (RA := SubSl a7 s.ws) (RB := SubSl a7 s.ws) (fun w0 h0 => hA w0 (hsA w0 h0)) (fun w0 h0 => hB w0 (hsB w0 h0))
          obtain ⟨w13, hr13, w14, hr14, ht⟩ := ft
          refine ⟨w13, hr13, ?_⟩
          conv => whnf
          refine ⟨w14, hr14, ?_⟩
          exact ⟨(a8, a9), ⟨rfl, rfl, trivial⟩, ht⟩
        trivial
      refine ⟨?_, ?_⟩
      · skip
        -- 7
        intro w10 hw10
        have b9 : Blk w10 w9.heap.size 206 (foundC 0#32 none 0 0 0 false) := by rw [hw10]; exact Blk.new w9 206 _
        have y10 : Ext w9 w10 := by rw [hw10]; exact Ext.new _ _
        have h9 : w7.heap.size ≤ w9.heap.size := x9.size
        generalize w9.heap.size = a9 at *
        clear hw10
        conv => whnf
        have x10 := x9.trans y10
        refine ⟨?_, ?_⟩
        · skip
          -- 5
          refine Calls.ret (look_calls (hsB _ (ho7.ext x10).sl) (by omega) hcB hmB) ?_
          rintro _ w11 ⟨rB, cB, rfl, hB, y11⟩
          conv => whnf
          have x11 := x10.trans y11
          replace b9 := b9.ext y11
          -- 6
          intro w12 hw12
          have b8 : Blk w12 w11.heap.size 206 (foundC 0#32 none 0 0 0 false) := by rw [hw12]; exact Blk.new w11 206 _
          have y12 : Ext w11 w12 := by rw [hw12]; exact Ext.new _ _
          have h8 : w7.heap.size ≤ w11.heap.size := x11.size
          have n89 : w11.heap.size ≠ a9 := fun e => by have := b9.lt; omega
          generalize w11.heap.size = a8 at *
          clear hw12
          conv => whnf
          have x12 := x11.trans y12
          replace b9 := b9.ext y12
          have ft := found_two (cA := cA) (cB := cB) x12 b8 b9 n89 h8 h9 (RA := SubSl a7 s.ws) (RB := SubSl a7 s.ws) (fun w0 h0 => hA w0 (hsA w0 h0)) (fun w0 h0 => hB w0 (hsB w0 h0))
          obtain ⟨w13, hr13, w14, hr14, ht⟩ := ft
          refine ⟨w13, hr13, ?_⟩
          conv => whnf
          refine ⟨w14, hr14, ?_⟩
          exact ⟨(a8, a9), ⟨rfl, rfl, trivial⟩, ht⟩
        refine ⟨?_, ?_⟩
        · skip
          -- 6
          intro w11 hw11
          have b8 : Blk w11 w10.heap.size 206 (foundC 0#32 none 0 0 0 false) := by rw [hw11]; exact Blk.new w10 206 _
          have y11 : Ext w10 w11 := by rw [hw11]; exact Ext.new _ _
          have h8 : w7.heap.size ≤ w10.heap.size := x10.size
          have n89 : w10.heap.size ≠ a9 := fun e => by have := b9.lt; omega
          generalize w10.heap.size = a8 at *
          clear hw11
          conv => whnf
          have x11 := x10.trans y11
          replace b9 := b9.ext y11
          -- 5
          refine Calls.ret (look_calls (hsB _ (ho7.ext x11).sl) (by omega) hcB hmB) ?_
          rintro _ w12 ⟨rB, cB, rfl, hB, y12⟩
          conv => whnf
          have x12 := x11.trans y12
          replace b8 := b8.ext y12
          replace b9 := b9.ext y12
          have ft := found_two (cA := cA) (cB := cB) x12 b8 b9 n89 h8 h9 (RA := SubSl a7 s.ws) (RB := SubSl a7 s.ws) (fun w0 h0 => hA w0 (hsA w0 h0)) (fun w0 h0 => hB w0 (hsB w0 h0))
          obtain ⟨w13, hr13, w14, hr14, ht⟩ := ft
          refine ⟨w13, hr13, ?_⟩
          conv => whnf
          refine ⟨w14, hr14, ?_⟩
          exact ⟨(a8, a9), ⟨rfl, rfl, trivial⟩, ht⟩
        trivial
      trivial
    refine ⟨?_, ?_⟩
    · skip
      -- 6
      intro w9 hw9
      have b8 : Blk w9 w8.heap.size 206 (foundC 0#32 none 0 0 0 false) := by rw [hw9]; exact Blk.new w8 206 _
      have y9 : Ext w8 w9 := by rw [hw9]; exact Ext.new _ _
      have h8 : w7.heap.size ≤ w8.heap.size := x8.size
      generalize w8.heap.size = a8 at *
      clear hw9
      conv => whnf
      have x9 := x8.trans y9
      refine ⟨?_, ?_⟩
      · skip
        -- 2
        refine Calls.ret (look_calls (hsA _ (ho7.ext x9).sl) (by omega) hcA hcd2) ?_
        rintro _ w10 ⟨rA, cA, rfl, hA, y10⟩
        conv => whnf
        have x10 := x9.trans y10
        replace b8 := b8.ext y10
        refine ⟨?_, ?_⟩
        · skip
          -- 5
          refine Calls.ret (look_calls (hsB _ (ho7.ext x10).sl) (by omega) hcB hmB) ?_
          rintro _ w11 ⟨rB, cB, rfl, hB, y11⟩
          conv => whnf
          have x11 := x10.trans y11
          replace b8 := b8.ext y11
          -- 7
          intro w12 hw12
          have b9 : Blk w12 w11.heap.size 206 (foundC 0#32 none 0 0 0 false) := by rw [hw12]; exact Blk.new w11 206 _
          have y12 : Ext w11 w12 := by rw [hw12]; exact Ext.new _ _
          have h9 : w7.heap.size ≤ w11.heap.size := x11.size
          have n89 : a8 ≠ w11.heap.size := fun e => by have := b8.lt; omega
          generalize w11.heap.size = a9 at *
          clear hw12
          conv => whnf
          have x12 := x11.trans y12
          replace b8 := b8.ext y12
          have ft := found_two (cA := cA) (cB := cB) x12 b8 b9 n89 h8 h9 (RA := SubSl a7 s.ws) (RB := SubSl a7 s.ws) (fun w0 h0 => hA w0 (hsA w0 h0)) (fun w0 h0 => hB w0 (hsB w0 h0))
          obtain ⟨w13, hr13, w14, hr14, ht⟩ := ft
          refine ⟨w13, hr13, ?_⟩
          conv => whnf
          refine ⟨w14, hr14, ?_⟩
          exact ⟨(a8, a9), ⟨rfl, rfl, trivial⟩, ht⟩
        refine ⟨?_, ?_⟩
        · skip
          -- 7
          intro w11 hw11
          have b9 : Blk w11 w10.heap.size 206 (foundC 0#32 none 0 0 0 false) := by rw [hw11]; exact Blk.new w10 206 _
          have y11 : Ext w10 w11 := by rw [hw11]; exact Ext.new _ _
          have h9 : w7.heap.size ≤ w10.heap.size := x10.size
          have n89 : a8 ≠ w10.heap.size := fun e => by have := b8.lt; omega
          generalize w10.heap.size = a9 at *
          clear hw11
          conv => whnf
          have x11 := x10.trans y11
          replace b8 := b8.ext y11
          -- 5
          refine Calls.ret (look_calls (hsB _ (ho7.ext x11).sl) (by omega) hcB hmB) ?_
          rintro _ w12 ⟨rB, cB, rfl, hB, y12⟩
          conv => whnf
          have x12 := x11.trans y12
          replace b8 := b8.ext y12
          replace b9 := b9.ext y12
          have ft := found_two (cA := cA) (cB := cB) x12 b8 b9 n89 h8 h9 (RA := SubSl a7 s.ws) (RB := SubSl a7 s.ws) (fun w0 h0 => hA w0 (hsA w0 h0)) (fun w0 h0 => hB w0 (hsB w0 h0))
          obtain ⟨w13, hr13, w14, hr14, ht⟩ := ft
          refine ⟨w13, hr13, ?_⟩
          conv => whnf
          refine ⟨w14, hr14, ?_⟩
          exact ⟨(a8, a9), ⟨rfl, rfl, trivial⟩, ht⟩
        trivial
      refine ⟨?_, ?_⟩
      · skip
        -- 7
        intro w10 hw10
        have b9 : Blk w10 w9.heap.size 206 (foundC 0#32 none 0 0 0 false) := by rw [hw10]; exact Blk.new w9 206 _
        have y10 : Ext w9 w10 := by rw [hw10]; exact Ext.new _ _
        have h9 : w7.heap.size ≤ w9.heap.size := x9.size
        have n89 : a8 ≠ w9.heap.size := fun e => by have := b8.lt; omega
        generalize w9.heap.size = a9 at *
        clear hw10
        conv => whnf
        have x10 := x9.trans y10
        replace b8 := b8.ext y10
        -- 2
        refine Calls.ret (look_calls (hsA _ (ho7.ext x10).sl) (by omega) hcA hcd2) ?_
        rintro _ w11 ⟨rA, cA, rfl, hA, y11⟩
        conv => whnf
        have x11 := x10.trans y11
        replace b8 := b8.ext y11
        replace b9 := b9.ext y11
        -- 5
        refine Calls.ret (look_calls (hsB _ (ho7.ext x11).sl) (by omega) hcB hmB) ?_
        rintro _ w12 ⟨rB, cB, rfl, hB, y12⟩
        conv => whnf
        have x12 := x11.trans y12
        replace b8 := b8.ext y12
        replace b9 := b9.ext y12
        have ft := found_two (cA := cA) (cB := cB) x12 b8 b9 n89 h8 h9 (RA := SubSl a7 s.ws) (RB := SubSl a7 s.ws) (fun w0 h0 => hA w0 (hsA w0 h0)) (fun w0 h0 => hB w0 (hsB w0 h0))
        obtain ⟨w13, hr13, w14, hr14, ht⟩ := ft
        refine ⟨w13, hr13, ?_⟩
        conv => whnf
        refine ⟨w14, hr14, ?_⟩
        exact ⟨(a8, a9), ⟨rfl, rfl, trivial⟩, ht⟩
      trivial
    refine ⟨?_, ?_⟩
    · skip
      -- 7
      intro w9 hw9
      have b9 : Blk w9 w8.heap.size 206 (foundC 0#32 none 0 0 0 false) := by rw [hw9]; exact Blk.new w8 206 _
      have y9 : Ext w8 w9 := by rw [hw9]; exact Ext.new _ _
      have h9 : w7.heap.size ≤ w8.heap.size := x8.size
      generalize w8.heap.size = a9 at *
      clear hw9
      conv => whnf
      have x9 := x8.trans y9
      refine ⟨?_, ?_⟩
      · skip
        -- 2
        refine Calls.ret (look_calls (hsA _ (ho7.ext x9).sl) (by omega) hcA hcd2) ?_
        rintro _ w10 ⟨rA, cA, rfl, hA, y10⟩
        conv => whnf
        have x10 := x9.trans y10
        replace b9 := b9.ext y10
        refine ⟨?_, ?_⟩
        · skip
          -- 5
          refine Calls.ret (look_calls (hsB _ (ho7.ext x10).sl) (by omega) hcB hmB) ?_
          rintro _ w11 ⟨rB, cB, rfl, hB, y11⟩
          conv => whnf
          have x11 := x10.trans y11
          replace b9 := b9.ext y11
          -- 6
          intro w12 hw12
          have b8 : Blk w12 w11.heap.size 206 (foundC 0#32 none 0 0 0 false) := by rw [hw12]; exact Blk.new w11 206 _
          have y12 : Ext w11 w12 := by rw [hw12]; exact Ext.new _ _
          have h8 : w7.heap.size ≤ w11.heap.size := x11.size
          have n89 : w11.heap.size ≠ a9 := fun e => by have := b9.lt; omega
          generalize w11.heap.size = a8 at *
          clear hw12
          conv => whnf
          have x12 := x11.trans y12
          replace b9 := b9.ext y12
          have ft := found_two (cA := cA) (cB := cB) x12 b8 b9 n89 h8 h9 (RA := SubSl a7 s.ws) (RB := SubSl a7 s.ws) (fun w0 h0 => hA w0 (hsA w0 h0)) (fun w0 h0 => hB w0 (hsB w0 h0))
          obtain ⟨w13, hr13, w14, hr14, ht⟩ := ft
          refine ⟨w13, hr13, ?_⟩
          conv => whnf
          refine ⟨w14, hr14, ?_⟩
          exact ⟨(a8, a9), ⟨rfl, rfl, trivial⟩, ht⟩
        refine ⟨?_, ?_⟩
        · skip
          -- 6
          intro w11 hw11
          have b8 : Blk w11 w10.heap.size 206 (foundC 0#32 none 0 0 0 false) := by rw [hw11]; exact Blk.new w10 206 _
          have y11 : Ext w10 w11 := by rw [hw11]; exact Ext.new _ _
          have h8 : w7.heap.size ≤ w10.heap.size := x10.size
          have n89 : w10.heap.size ≠ a9 := fun e => by have := b9.lt; omega
          generalize w10.heap.size = a8 at *
          clear hw11
          conv => whnf
          have x11 := x10.trans y11
          replace b9 := b9.ext y11
          -- 5
          refine Calls.ret (look_calls (hsB _ (ho7.ext x11).sl) (by omega) hcB hmB) ?_
          rintro _ w12 ⟨rB, cB, rfl, hB, y12⟩
          conv => whnf
          have x12 := x11.trans y12
          replace b8 := b8.ext y12
          replace b9 := b9.ext y12
          have ft := found_two (cA := cA) (cB := cB) x12 b8 b9 n89 h8 h9 (RA := SubSl a7 s.ws) (RB := SubSl a7 s.ws) (fun w0 h0 => hA w0 (hsA w0 h0)) (fun w0 h0 => hB w0 (hsB w0 h0))
          obtain ⟨w13, hr13, w14, hr14, ht⟩ := ft
          refine ⟨w13, hr13, ?_⟩
          conv => whnf
          refine ⟨w14, hr14, ?_⟩
          exact ⟨(a8, a9), ⟨rfl, rfl, trivial⟩, ht⟩
        trivial
      refine ⟨?_, ?_⟩
      · skip
        -- 6
        intro w10 hw10
        have b8 : Blk w10 w9.heap.size 206 (foundC 0#32 none 0 0 0 false) := by rw [hw10]; exact Blk.new w9 206 _
        have y10 : Ext w9 w10 := by rw [hw10]; exact Ext.new _ _
        have h8 : w7.heap.size ≤ w9.heap.size := x9.size
        have n89 : w9.heap.size ≠ a9 := fun e => by have := b9.lt; omega
        generalize w9.heap.size = a8 at *
        clear hw10
        conv => whnf
        have x10 := x9.trans y10
        replace b9 := b9.ext y10
        -- 2
        refine Calls.ret (look_calls (hsA _ (ho7.ext x10).sl) (by omega) hcA hcd2) ?_
        rintro _ w11 ⟨rA, cA, rfl, hA, y11⟩
        conv => whnf
        have x11 := x10.trans y11
        replace b8 := b8.ext y11
        replace b9 := b9.ext y11
        -- 5
        refine Calls.ret (look_calls (hsB _ (ho7.ext x11).sl) (by omega) hcB hmB) ?_
        rintro _ w12 ⟨rB, cB, rfl, hB, y12⟩
        conv => whnf
        have x12 := x11.trans y12
        replace b8 := b8.ext y12
        replace b9 := b9.ext y12
        have ft := found_two (cA := cA) (cB := cB) x12 b8 b9 n89 h8 h9 (RA := SubSl a7 s.ws) (RB := SubSl a7 s.ws) (fun w0 h0 => hA w0 (hsA w0 h0)) (fun w0 h0 => hB w0 (hsB w0 h0))
        obtain ⟨w13, hr13, w14, hr14, ht⟩ := ft
        refine ⟨w13, hr13, ?_⟩
        conv => whnf
        refine ⟨w14, hr14, ?_⟩
        exact ⟨(a8, a9), ⟨rfl, rfl, trivial⟩, ht⟩
      trivial
    trivial
  rintro ⟨a8, a9⟩ w9 ⟨rA, cA, rB, cB, b8, b9, n89, h8, h9, hA, hB, x9⟩
  have p9 := hp7.ext x9
  have hpl := hp7.lt
  have x29 := x27.trans x9
  have np8 : p ≠ a8 := by intro e; subst e; omega
  have np9 : p ≠ a9 := by intro e; subst e; omega
  have z2 : w2.heap.size ≤ p := by omega
  have z7 := x27.size
  conv => whnf
  refine ⟨_, b9.cell (i := 0) rfl, ?_⟩
  conv => whnf
  refine ⟨_, b8.cell (i := 0) rfl, ?_⟩
  conv => whnf
  have hS : ∀ k, (k = a8 ∨ k = p) → w2.heap.size ≤ k := fun k hk => by rcases hk with rfl | rfl <;> omega
  have own : ∀ w', Mod (fun k => k = a8 ∨ k = p) w9 w' → Sl u32v w' a7 s.ws := fun w' m => (m.keepOwn (ho7.ext x9) fun k hk q => by
    have := ho7.ge k hk
    have := hn3 p (.inr rfl)
    rcases q with rfl | rfl <;> omega).sl
  refine vcCond_meet (fun _ : Unit => [(6, .pointer (some ⟨p, 0, none⟩)), (8, .pointer (some ⟨a8, 0, none⟩))])
    (fun _ w' => ∃ ra ca, Blk w' a8 206 (foundC (jopF s.ws m).num ra (jopF s.ws m).words.length ca (jopF s.ws m).end_ (jopF s.ws m).clean) ∧ SubSl a7 s.ws ra (jopF s.ws m).words ∧ Blk w' p 128 (jC g m (jopF s.ws m).cur 0 false 0#32 false 0 none 0) ∧ Mod (fun k => k = a8 ∨ k = p) w9 w') ?_ ?_
  · refine vcCond_split lok rfl (fun h3 => ?_) (fun h3 => ?_)
    · have h3 := dt h3
      conv => whnf
      rw [if_pos (by omega)] at hJ
      rw [hJ]
      refine ⟨_, rfl, b9.cells, ?_⟩
      conv => whnf
      have k10 := Blk.storeAgg lok b8 (t := 206) (us := foundC (tellF sB).number rB (tellF sB).words.length cB (tellF sB).end_ (tellF sB).clean) rfl 0 (Nat.le_refl 4) (foundC_one _ _ _ _ _ _)
      obtain ⟨w10, hr10, hb10, g10⟩ := k10
      have hb10 : Blk w10 a8 206 (foundC (tellF sB).number rB (tellF sB).words.length cB (tellF sB).end_ (tellF sB).clean) := hb10
      refine ⟨w10, hr10, ?_⟩
      have p10 := p9.keep (g10.block p p9.lt (fun e => np8 (Option.some.inj e)))
      conv => whnf
      refine ⟨p10.can 2 (by simp [jC]) _ rfl, fun w11 hw11 => ?_⟩
      have p11 : Blk w11 p 128 (jC g m 1 0 false 0#32 false 0 none 0) := by rw [hw11]; exact p10.set 2 _
      have g11 := gr_of_set hw11
      clear hw11
      conv => whnf
      exact ⟨(), ⟨rfl, rfl, trivial⟩, rB, cB, hb10.keep (g11.block a8 hb10.lt (fun e => np8 (Option.some.inj e).symm)), hB, p11,
        (Mod.ofGr g10 fun k hk => .inl (Option.some.inj hk).symm).trans (Mod.ofGr g11 fun k hk => .inr (Option.some.inj hk).symm)⟩
    · have h3 := df h3
      conv => whnf
      rw [if_neg (by omega)] at hJ
      rw [hJ]
      exact ⟨(), ⟨rfl, rfl, trivial⟩, rA, cA, b8, hA, p9, Mod.refl _ _⟩
  rintro ⟨⟩ w10 ⟨ra, ca, b10, hra, p10, m10⟩
  have eS : (jopF s.ws m).sec = m ∧ (jopF s.ws m).dead = false := by rw [hJ]; split <;> exact ⟨rfl, rfl⟩
  have hwl : (jopF s.ws m).words.length ≤ 64 := by rw [hJ]; split <;> exact (tell_ok _).2.2.1
  clear hJ hA hB b8 b9 p9 hp7 hp3
  generalize hJJ : jopF s.ws m = j at *
  conv => whnf
  refine vcDraw_meet lok mixed (fun w' => Blk w' a8 206 (foundC j.num ra j.words.length ca j.end_ j.clean)) [11, 14] [0, 1, 2, 3, 4, 5, 6, 7, 8, 9, 10, 11, 12, 13, 14, 15, 16, 17]
    (fun _ : Unit => []) (fun _ w' => Blk w' a8 206 (foundC j.num ra j.words.length ca j.end_ j.clean) ∧ Blk w' p 128 (jC g m j.cur j.end_ j.clean j.num false 0 none 0) ∧ Mod (fun k => k = a8 ∨ k = p) w9 w') [] (fun _ => rfl) rfl (by kernel_rfl) (fun w11 hw11 => ⟨b10.ext (hw11 ▸ Ext.drew w10), ?_⟩) ?_
  · have y11 : Ext w10 w11 := hw11 ▸ Ext.drew w10
    clear hw11
    have b11 := b10.ext y11
    have p11 := p10.ext y11
    have m11 := m10.trans (Mod.ofExt (fun k => k = a8 ∨ k = p) y11)
    have n1 : some a8 ≠ some p := fun e => np8 (Option.some.inj e).symm
    have S1 : ∀ k, some p = some k → (k = a8 ∨ k = p) := fun k hk => .inr (Option.some.inj hk).symm
    conv => whnf
    refine ⟨_, fun w' hw' => hw'.cell (i := 0) rfl, ?_⟩
    conv => whnf
    refine ⟨_, fun w' hw' => hw'.cell (i := 2) rfl, ?_⟩
    conv => whnf
    refine ⟨_, fun w' hw' => hw'.cell (i := 3) rfl, ?_⟩
    conv => whnf
    refine ⟨p11.can 5 (by simp [jC]) _ rfl, fun w12 hw12 => ?_⟩
    have p12 : Blk w12 p 128 (jC g m j.cur 0 false j.num false 0 none 0) := by rw [hw12]; exact p11.set 5 _
    have g12 := gr_of_set hw12
    clear hw12
    have b12 := b11.keep (g12.block a8 b11.lt n1)
    have m12 := m11.trans (Mod.ofGr g12 S1)
    conv => whnf
    refine ⟨_, fun _ h => h, b12, ?_⟩
    conv => whnf
    refine ⟨p12.can 3 (by simp [jC]) _ rfl, fun w13 hw13 => ?_⟩
    have p13 : Blk w13 p 128 (jC g m j.cur j.end_ false j.num false 0 none 0) := by rw [hw13]; exact p12.set 3 _
    have g13 := gr_of_set hw13
    clear hw13
    have b13 := b12.keep (g13.block a8 b12.lt n1)
    have m13 := m12.trans (Mod.ofGr g13 S1)
    conv => whnf
    refine ⟨_, fun _ h => h, b13, ?_⟩
    conv => whnf
    refine ⟨p13.can 4 (by simp [jC]) _ rfl, fun w14 hw14 => ?_⟩
    have p14 : Blk w14 p 128 (jC g m j.cur j.end_ j.clean j.num false 0 none 0) := by rw [hw14]; exact p13.set 4 _
    have g14 := gr_of_set hw14
    clear hw14
    exact ⟨(), trivial, b13.keep (g14.block a8 b13.lt n1), p14, m13.trans (Mod.ofGr g14 S1)⟩
  rintro ⟨⟩ w11 ⟨b11, p11, m11⟩
  conv => whnf
  refine vcDraw_go lok mixed (fun w' => Blk w' a8 206 (foundC j.num ra j.words.length ca j.end_ j.clean) ∧ Blk w' p 128 (jC g m j.cur j.end_ j.clean j.num false 0 none 0)) [] [0, 1, 2, 3, 4, 5, 6, 7, 8, 9, 10] (by kernel_rfl) (fun w12 hw12 => ⟨⟨b11.ext (hw12 ▸ Ext.drew w11), p11.ext (hw12 ▸ Ext.drew w11)⟩, ?_⟩)
  have y12 : Ext w11 w12 := hw12 ▸ Ext.drew w11
  clear hw12
  have p12 := p11.ext y12
  have m12 := m11.trans (Mod.ofExt (fun k => k = a8 ∨ k = p) y12)
  conv => whnf
  refine ⟨_, fun w' hw' => hw'.2.cell (i := 6) rfl, ?_⟩
  conv => whnf
  refine ⟨_, fun w' hw' => hw'.1.cell (i := 1) rfl, ?_⟩
  conv => whnf
  have g13 := (Own.nil 42 u32v w12.heap.size w12).append (ty := 37) (d := ca) e32.toElem (fun _ => rfl) (hra w12 (own w12 m12)) (by simp; omega) (Nat.le_refl _)
  obtain ⟨a13, c13, w13, hr13, ho13, g13, _⟩ := g13
  rw [List.nil_append] at hr13 ho13
  refine ⟨_, _, hr13, ?_⟩
  have x13 : Ext w12 w13 := Gr.ext g13
  have p13 := p12.ext x13
  have m13 := m12.trans (Mod.ofExt (fun k => k = a8 ∨ k = p) x13)
  conv => whnf
  refine ⟨p13.can 6 (by simp [jC]) _ rfl, fun w14 hw14 => ?_⟩
  have p14 : Blk w14 p 128 (jC g m j.cur j.end_ j.clean j.num false j.words.length a13 c13) := by rw [hw14]; exact p13.set 6 _
  have g14 := gr_of_set hw14
  clear hw14
  have m14 := m13.trans (Mod.ofGr g14 fun k hk => (.inr (Option.some.inj hk).symm : k = a8 ∨ k = p))
  conv => whnf
  have z12 := m12.size
  have x14 := m14.above x29 hS
  refine OpenPost.mk hoff hn.1 hn.2 (p := p) ?_ x14
  rw [Int.toNat_natCast, hJJ]
  refine ⟨⟨a13, c13, ?_, ?_, fun k hk q => ?_⟩, by omega, fun k hk => ?_, .inr rfl⟩
  · unfold JS.cells
    rw [eS.1, eS.2]
    exact p14
  · have x914 : w9.heap.size ≤ w12.heap.size := z12
    have z9 := x29.size
    refine (g14.keepOwn ho13 fun k hk e => ?_).base (by omega)
    have := (ho13.ge k hk).1
    have e := Option.some.inj e
    have := p12.lt
    omega
  · have := (ho13.ge k hk).1
    have := p12.lt
    have z9 := x29.size
    rcases q with q | q <;> omega
  · have := p14.lt
    have := x14.size
    rcases hk with q | q <;> omega

set_option maxHeartbeats 1000000 in
/-- Last -/
theorem last_calls {N : Nat → Prop} {B : Nat} {w : World} {p g : Nat} {j : JS} (h : JAt N B w p g j) (hl : j.words.length ≤ 64) :
    Calls Try.prog 112 #[.pointer (some ⟨p, 0, none⟩)] w (Ret fun v w' => Ext w w' ∧ ((j.num = 0#32 ∧ v = .tuple #[.slice none 0 0, .int .u32 0, .bool false]) ∨
      (j.num ≠ 0#32 ∧ ∃ a c, v = .tuple #[.slice a j.words.length c, .int .u32 j.num.toNat, .bool true] ∧ Own 42 u32v w.heap.size w' a c j.words))) := by
  obtain ⟨⟨ra, rc, hb, ho, _⟩, _, _, _⟩ := h
  refine calls_of_vc lok Try.func112 ?_ rfl
  conv => whnf
  refine vcReg_go lok ?_
  conv => whnf
  refine ⟨_, hb.cell (i := 5) rfl, ?_⟩
  conv => whnf
  refine vcCond_split lok rfl (fun h1 => ?_) (fun h1 => ?_)
  · have h1 := num_zero.1 (dt h1)
    conv => whnf
    exact ⟨Ext.refl _, .inl ⟨h1, rfl⟩⟩
  have h1 := fun e => df h1 (num_zero.2 e)
  conv => whnf
  refine vcDraw_go lok mixed (fun w' => Blk w' p 128 (j.cells g ra rc)) [4] [0, 1, 2, 3, 5, 6, 7, 8, 4, 9, 10, 11] (by kernel_rfl) (fun w1 hw1 => ⟨hb.ext (hw1 ▸ Ext.drew w), ?_⟩)
  have x1 : Ext w w1 := hw1 ▸ Ext.drew w
  clear hw1
  conv => whnf
  refine ⟨_, fun w' hw' => hw'.cell (i := 6) rfl, ?_⟩
  conv => whnf
  refine ⟨_, fun w' hw' => hw'.cell (i := 5) rfl, ?_⟩
  conv => whnf
  have z1 := x1.size
  have g2 := (Own.nil 42 u32v w.heap.size w1).append (ty := 37) (d := rc) e32.toElem (fun _ => rfl) (ho.sl.ext x1) (by simp; omega) z1
  obtain ⟨a2, c2, w2, hr2, ho2, g2, _⟩ := g2
  rw [List.nil_append] at hr2 ho2
  refine ⟨_, _, hr2, ?_⟩
  have x2 : Ext w1 w2 := Gr.ext g2
  refine ⟨_, fun _ h => h, (hb.ext x1).ext x2, ?_⟩
  exact ⟨x1.trans x2, .inr ⟨h1, a2, c2, rfl, ho2⟩⟩

theorem nlast_calls {w : World} : Calls Try.prog 112 #[.pointer none] w (Ret fun v w' => v = .tuple #[.slice none 0 0, .int .u32 0, .bool false] ∧ w' = w) := by
  refine calls_of_vc lok Try.func112 ?_ rfl
  conv => whnf
  refine vcReg_go lok ?_
  conv => whnf
  refine vcCond_true lok (rfl) ?_
  conv => whnf
  exact ⟨rfl, rfl⟩
theorem zlast_calls {w : World} {p : Nat} {cs : List Value} (hb : Blk w p 128 cs) (h5 : cs[5]? = some (.int .u32 0)) : Calls Try.prog 112 #[.pointer (some ⟨p, 0, none⟩)] w (Ret fun v w' => v = .tuple #[.slice none 0 0, .int .u32 0, .bool false] ∧ w' = w) := by
  refine calls_of_vc lok Try.func112 ?_ rfl
  conv => whnf
  refine vcReg_go lok ?_
  conv => whnf
  refine ⟨_, hb.cell (i := 5) h5, ?_⟩
  conv => whnf
  refine vcCond_true lok (rfl) ?_
  conv => whnf
  exact ⟨rfl, rfl⟩
end Go.Proofs.Ytgipackjnncabaa
