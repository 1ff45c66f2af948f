/- The generator of verification conditions is sound. -/
import Derived.Test.YtgipackjnncabaaVc
set_option linter.unusedSimpArgs false
set_option linter.unusedVariables false
namespace Go.Vc
open Go.RowKit

section
variable {L : Lay} {P : Program} {n : Nat} {E : Env} {a : Act} {w : World} {next : Act → World → Prop} {Q : Exit → Act → World → Prop} {o : Oper}

theorem wp_of_value {v : Value} {w' : World} (hrun : (execOp a.eval o).run P w = .ok (.value v) w') (h : next (a.put o.dst v) w') : o.wp P a w next Q := by
  unfold Oper.wp; rw [hrun]; exact h
theorem wp_of_skip {w' : World} (hrun : (execOp a.eval o).run P w = .ok .skip w') (h : next (a.put o.dst undef) w') : o.wp P a w next Q := by
  unfold Oper.wp; rw [hrun]; exact h
theorem wp_of_enter {f : FuncId} {args : Array Value} {w' : World} (hrun : (execOp a.eval o).run P w = .ok (.enter f args) w')
    (h : Calls P f args w' fun e w'' => match e with | .returned v => next (a.put o.dst v) w'' | _ => False) : o.wp P a w next Q := by
  unfold Oper.wp; rw [hrun]
  refine Calls.mono h fun e w'' he => ?_
  cases e with
  | returned v => exact he
  | panicked c => exact he.elim
  | outgrown => exact he.elim

theorem evs_sound (hr : Rep n E a) : ∀ {xs : List Operand} {vs : List Value}, evs E xs = some vs → xs.map a.eval = vs
  | [], vs, h => by simp [evs] at h; simp [h]
  | x :: xs, vs, h => by
    simp only [evs] at h
    split at h
    · rename_i v hv
      split at h
      · rename_i us hus
        simp at h
        subst h
        simp [ev_sound hr hv, evs_sound hr hus]
      · cases h
    · cases h

theorem evp_sound (hr : Rep n E a) : ∀ {xs : List (Nat × Operand)} {vs : List (Nat × Value)}, evp E xs = some vs → xs.map (fun (i, x) => (i, a.eval x)) = vs
  | [], vs, h => by simp [evp] at h; simp [h]
  | (i, x) :: xs, vs, h => by
    simp only [evp] at h
    split at h
    · rename_i v hv
      split at h
      · rename_i us hus
        simp at h
        subst h
        have := evp_sound hr hus
        simp [ev_sound hr hv, this]
      · cases h
    · cases h

theorem wrap_i64 {z : Int} (h : -9223372036854775808 ≤ z ∧ z ≤ 9223372036854775807) : IntKind.i64.wrap z = z := by
  unfold IntKind.wrap IntKind.bits IntKind.signed
  simp only [Bool.true_and, decide_eq_true_eq]
  have e1 : (2 : Int) ^ 64 = 18446744073709551616 := by decide
  have e2 : (2 : Int) ^ (64 - 1) = 9223372036854775808 := by decide
  rw [e1, e2]
  split <;> omega

theorem vcBin_run {t : Nat} {op : BinOp} {k : IntKind} {x y : Int} {K : Value → Prop} (h : vcBin op k x y K) : ∃ v, (∀ w, (binOp op t (.int k x) (.int k y)).run P w = .ok v w) ∧ K v := by
  cases op <;> simp only [vcBin] at h
  case add =>
    cases k <;> first
      | exact ⟨_, fun w => by simp [binOp, Op.intArith], h _ rfl⟩
      | exact ⟨_, fun w => by simp [binOp, Op.intArith, wrap_i64 h.1], h.2⟩
  case sub =>
    cases k <;> first
      | exact ⟨_, fun w => by simp [binOp, Op.intArith], h _ rfl⟩
      | exact ⟨_, fun w => by simp [binOp, Op.intArith, wrap_i64 h.1], h.2⟩
  case mul =>
    cases k <;> first
      | exact ⟨_, fun w => by simp [binOp, Op.intArith], h _ rfl⟩
      | exact ⟨_, fun w => by simp [binOp, Op.intArith, wrap_i64 h.1], h.2⟩
  case quo => exact ⟨_, fun w => by simp [binOp, Op.intDiv, h.1], h.2 _ rfl⟩
  case rem => exact ⟨_, fun w => by simp [binOp, Op.intDiv, h.1], h.2 _ rfl⟩
  case and => exact ⟨_, fun w => by simp [binOp, Op.intBits], h _ rfl⟩
  case or => exact ⟨_, fun w => by simp [binOp, Op.intBits], h _ rfl⟩
  case xor => exact ⟨_, fun w => by simp [binOp, Op.intBits], h _ rfl⟩
  case andNot => exact ⟨_, fun w => by simp [binOp, Op.intBits], h _ rfl⟩
  case eql => exact ⟨_, fun w => by simp [binOp, Op.intCmp]; rfl, h⟩
  case neq => exact ⟨_, fun w => by simp [binOp, Op.intCmp, bne]; rfl, h⟩
  case lss => exact ⟨_, fun w => by simp [binOp, Op.intCmp], h⟩
  case leq => exact ⟨_, fun w => by simp [binOp, Op.intCmp], h⟩
  case gtr => exact ⟨_, fun w => by simp [binOp, Op.intCmp], h⟩
  case geq => exact ⟨_, fun w => by simp [binOp, Op.intCmp], h⟩

theorem vcShift_run {t : Nat} {op : BinOp} {k k' : IntKind} {x y : Int} {K : Value → Prop} (h : vcShift op k x y K) : ∃ v, (∀ w, (binOp op t (.int k x) (.int k' y)).run P w = .ok v w) ∧ K v := by
  cases op <;> simp only [vcShift] at h
  case shl => exact ⟨_, fun w => by have := h.1; simp [binOp, Op.shift, Int.not_lt.2 this], h.2 _ rfl⟩
  case shr => exact ⟨_, fun w => by have := h.1; simp [binOp, Op.shift, Int.not_lt.2 this], h.2 _ rfl⟩

theorem eqGuard_at_pointer {op : BinOp} {t : Nat} {x y : Operand} (p : Option Addr) (v : Value) : eqGuard op t x y (.pointer p) v = pure () := by cases op <;> rfl

theorem run_equalIn_ptr {t e : TypeId} (d : Nat) (h : P.underlying t = some (.pointer e)) (p : Addr) : (Op.equalIn (d + 1) t (.pointer (some p)) (.pointer none)).run P w = .ok false w := by
  simp [Op.equalIn, run_underlying h]
theorem run_equalIn_nil {t e : TypeId} (d : Nat) (h : P.underlying t = some (.pointer e)) : (Op.equalIn (d + 1) t (.pointer none) (.pointer none)).run P w = .ok true w := by
  simp [Op.equalIn, run_underlying h]
theorem run_equal_ptr {t e : TypeId} (h : P.underlying t = some (.pointer e)) (p : Addr) : (Op.equal t (.pointer (some p)) (.pointer none)).run P w = .ok false w := run_equalIn_ptr 9999 h p
theorem run_equal_nil {t e : TypeId} (h : P.underlying t = some (.pointer e)) : (Op.equal t (.pointer none) (.pointer none)).run P w = .ok true w := run_equalIn_nil 9999 h

theorem bin_wp {op : BinOp} {t ty : Nat} {x y : Operand} {u v r : Value} (ho : o.op = .binOp op t x y ty) (hx : a.eval x = u) (hy : a.eval y = v)
    (hg : eqGuard op t x y u v = pure ()) (hrun : (binOp op t u v).run P w = .ok r w) (h : next (a.put o.dst r) w) : o.wp P a w next Q :=
  wp_of_value (v := r) (w' := w) (by
    unfold execOp
    simp only [ho, hx, hy, Sem.run_bind, hg, Sem.run_pure, Result.andThen_ok, hrun]) h

theorem run_newVar (t : TypeId) (v : Value) : (newVar t v).run P w = .ok ⟨w.heap.size, 0, none⟩ (w.alloc (.cells v.cells t)) := rfl

theorem run_zero {t : TypeId} {i : TypeInfo} {z : Value} (hi : P.info? t = some i) (hz : i.zero = some z) : (zeroValue t).run P w = .ok z w := by
  unfold zeroValue
  simp [run_typeInfo w hi, hz]

theorem run_isAgg {t : TypeId} {d : TypeDesc} (h : P.underlying t = some d) : (isAgg t).run P w = .ok (isAggD d) w := by
  unfold isAgg
  simp only [Sem.run_bind, run_underlying h, Result.andThen_ok]
  cases d <;> rfl

theorem run_size {t : TypeId} {i : TypeInfo} (h : P.info? t = some i) : (sizeOf t).run P w = .ok i.size w := by
  unfold sizeOf
  simp [run_typeInfo w h]

theorem addr_add (b o i : Nat) : (⟨b, o, none⟩ : Addr).add i = ⟨b, o + i, none⟩ := by
  unfold Addr.add
  split
  · rename_i h; subst h; rfl
  · rfl

theorem map_add_zero (a0 : Option Addr) : Option.map (fun x : Addr => x.add 0) a0 = a0 := by
  cases a0 <;> simp [Addr.add]

theorem minL_run (k : IntKind) : ∀ (vs : List Value) (x z : Int), minL k x vs = some z → (vs.foldlM Builtin.min2 (.int k x)).run P w = .ok (.int k z) w
  | [], x, z, h => by simp [minL] at h; simp [h]
  | .int _ y :: vs, x, z, h => by
    simp only [minL] at h
    have := minL_run k vs _ z h
    simp only [List.foldlM_cons, Sem.run_bind, Builtin.min2, Sem.run_pure, Result.andThen_ok, this]
  | .bool _ :: vs, x, z, h => by cases h
  | .float _ _ :: vs, x, z, h => by cases h
  | .complex _ _ _ :: vs, x, z, h => by cases h
  | .string _ :: vs, x, z, h => by cases h
  | .pointer _ :: vs, x, z, h => by cases h
  | .slice _ _ _ :: vs, x, z, h => by cases h
  | .map _ :: vs, x, z, h => by cases h
  | .chan _ :: vs, x, z, h => by cases h
  | .func _ _ _ :: vs, x, z, h => by cases h
  | .nilFunc :: vs, x, z, h => by cases h
  | .iface _ _ :: vs, x, z, h => by cases h
  | .nilIface :: vs, x, z, h => by cases h
  | .agg _ :: vs, x, z, h => by cases h
  | .tuple _ :: vs, x, z, h => by cases h

theorem run_callFunc {g : FuncId} {fn : Func} {args : Array Value} (hf : P.funcs[g]? = some fn) (hn : (fn.name == "runtime.NumGoroutine") = false) (hb : fn.body.isNone = false) :
    (callFunc g args).run P w = .ok (.enter g args) w := by
  unfold callFunc
  simp only [program, bind, Sem.bind, Sem.run, hf, hn, hb]
  rfl

set_option maxHeartbeats 1000000 in
theorem vcOp_sound (hL : L.Ok P) (hr : Rep n E a) {K : Value → World → Prop} (h : vcOp L P o.op o.type E w K) (hnext : ∀ v w', K v w' → next (a.put o.dst v) w') : o.wp P a w next Q := by
  generalize ho : o.op = op at h
  cases op <;> simp only [vcOp] at h
  case move x =>
    split at h
    · rename_i v hv
      exact wp_of_value (v := v) (w' := w) (by unfold execOp; simp [ho, ev_sound hr hv]) (hnext _ _ h)
    · exact h.elim
  case assign x =>
    split at h
    · rename_i v hv
      exact wp_of_value (v := v) (w' := w) (by unfold execOp; simp [ho, ev_sound hr hv]) (hnext _ _ h)
    · exact h.elim
  case pick c x y =>
    split at h
    · rename_i β hc
      have h2 := bsel_elim h
      clear h
      rcases h2 with ⟨hβ, h⟩ | ⟨hβ, h⟩ <;> subst hβ
      · split at h
        · rename_i v hv
          exact wp_of_value (v := v) (w' := w) (by unfold execOp; simp [ho, ev_sound hr hv, ev_sound hr hc, asBool]) (hnext _ _ h)
        · exact h.elim
      · split at h
        · rename_i v hv
          exact wp_of_value (v := v) (w' := w) (by unfold execOp; simp [ho, ev_sound hr hv, ev_sound hr hc, asBool]) (hnext _ _ h)
        · exact h.elim
    · exact h.elim
  case alloc t =>
    split at h
    · rename_i v hv
      obtain ⟨i, hi, hz⟩ := hL.zero _ _ hv
      exact wp_of_value (v := .pointer (some ⟨w.heap.size, 0, none⟩)) (w' := w.alloc (.cells v.cells t))
        (by unfold execOp; simp [ho, Instr.alloc, run_zero hi hz, run_newVar]) (hnext _ _ (h _ rfl))
    · exact h.elim
  case box t x =>
    split at h
    · rename_i cs hv
      exact wp_of_value (v := .pointer (some ⟨w.heap.size, 0, none⟩)) (w' := w.alloc (.cells cs t))
        (by unfold execOp; simp [ho, Instr.box, ev_sound hr hv, run_newVar, Value.cells]) (hnext _ _ (h _ rfl))
    · rename_i v hn hv
      obtain ⟨hne, h⟩ := h
      refine wp_of_value (v := .pointer (some ⟨w.heap.size, 0, none⟩)) (w' := w.alloc (.cells #[v] t))
        (by
          have hc : v.cells = #[v] := by
            cases v <;> first | rfl | exact absurd rfl (hne _)
          unfold execOp; simp [ho, Instr.box, ev_sound hr hv, run_newVar, hc]) (hnext _ _ (h _ rfl))
    · exact h.elim
  case build t parts =>
    split at h
    · rename_i ps hp
      obtain ⟨v, hrun, hk⟩ := h
      have e : (parts.map fun (i, x) => (i, a.eval x)) = ps.toArray := by
        rw [← evp_sound hr hp]; apply Array.ext'; simp
      exact wp_of_value (v := v) (w' := w) (by unfold execOp; simp only [ho]; rw [e]; simp [hrun]) (hnext _ _ hk)
    · exact h.elim
  case buildSlice t len parts =>
    split at h
    · rename_i ps hp
      obtain ⟨v, w', hrun, hk⟩ := h
      have e : (parts.map fun (i, x) => (i, a.eval x)) = ps.toArray := by
        rw [← evp_sound hr hp]; apply Array.ext'; simp
      exact wp_of_value (v := v) (w' := w') (by unfold execOp; simp only [ho]; rw [e]; simp [hrun]) (hnext _ _ hk)
    · exact h.elim
  case load t x =>
    split at h
    · rename_i b off hx
      split at h
      · rename_i hs
        obtain ⟨v, hc, hk⟩ := h
        obtain ⟨d, hu, hd, _⟩ := hL.single _ hs
        exact wp_of_value (v := v) (w' := w) (by
          unfold execOp
          simp [ho, ev_sound hr hx, Instr.loadAt, Instr.sureAddr, loadVar, run_isAgg hu, hd, hc]) (hnext _ _ hk)
      · split at h
        · rename_i m hm
          obtain ⟨cs, hl, hc, hk⟩ := h
          obtain ⟨d, hu, hd, i, hi, hsz⟩ := hL.agg _ _ hm
          have hrun := run_loadCells_list (P := P) w ⟨b, off, none⟩ cs (fun j v hj => by rw [addr_add]; exact hc j v hj)
          rw [hl] at hrun
          exact wp_of_value (v := .agg cs.toArray) (w' := w) (by
            unfold execOp
            simp [ho, ev_sound hr hx, Instr.loadAt, Instr.sureAddr, loadVar, run_isAgg hu, hd, run_size hi, hsz, hrun]) (hnext _ _ hk)
        · exact h.elim
    · exact h.elim
  case store t x y =>
    split at h
    · rename_i b off v hx hy
      split at h
      · rename_i hs
        obtain ⟨⟨h1, h2, h3⟩, hk⟩ := h
        obtain ⟨d, hu, hd, i, hi, hsz⟩ := hL.single _ hs
        have hc : v.cells = #[v] := by cases v <;> first | rfl | (simp [Value.oneCell'] at h1)
        refine wp_of_skip (w' := w.setCell ⟨b, off, none⟩ v) ?_ (hnext _ _ (hk _ rfl))
        unfold execOp
        obtain ⟨u, hcell⟩ := Option.isSome_iff_exists.1 h2
        simp [ho, ev_sound hr hx, ev_sound hr hy, Instr.storeAt, Instr.sureAddr, storeVar, run_size hi, hsz, hc, storeCells, run_store _ _ _ _ _ h1, hcell, h3, addr_add]
      · obtain ⟨w', hrun, hk⟩ := h
        refine wp_of_skip (w' := w') ?_ (hnext _ _ hk)
        unfold execOp
        simp [ho, ev_sound hr hx, ev_sound hr hy, hrun]
    · exact h.elim
  case nilCheck x =>
    split at h
    · rename_i p hx
      exact wp_of_value (v := .pointer (some p)) (w' := w) (by unfold execOp; simp [ho, ev_sound hr hx]) (hnext _ _ h)
    · rename_i f fs cs hx
      exact wp_of_value (v := .func (.func f) fs cs) (w' := w) (by unfold execOp; simp [ho, ev_sound hr hx]) (hnext _ _ h)
    · exact h.elim
  case binOp op t x y ty =>
    split at h
    · rename_i k u k' v hx hy
      split at h
      · obtain ⟨r, hrun, hk⟩ := vcShift_run (P := P) (t := t) (k' := k') h
        exact bin_wp ho (ev_sound hr hx) (ev_sound hr hy) (by simp only [eqGuard_at_int]) (hrun w) (hnext _ _ hk)
      · obtain ⟨r, hrun, hk⟩ := vcShift_run (P := P) (t := t) (k' := k') h
        exact bin_wp ho (ev_sound hr hx) (ev_sound hr hy) (by simp only [eqGuard_at_int]) (hrun w) (hnext _ _ hk)
      · split at h
        · rename_i hk'
          obtain rfl := kn_inj hk'
          obtain ⟨r, hrun, hk⟩ := vcBin_run (P := P) (t := t) h
          exact bin_wp ho (ev_sound hr hx) (ev_sound hr hy) (by simp only [eqGuard_at_int]) (hrun w) (hnext _ _ hk)
        · exact h.elim
    · rename_i u v hx hy
      split at h
      · rename_i hb
        refine bin_wp (r := .bool (u == v)) ho (ev_sound hr hx) (ev_sound hr hy) (by simp only [eqGuard_at_bool]) ?_ (hnext _ _ h)
        simp [binOp, run_equal_bool w t _ _ (hL.isBool _ hb)]
      · rename_i hb
        refine bin_wp (r := .bool (!(u == v))) ho (ev_sound hr hx) (ev_sound hr hy) (by simp only [eqGuard_at_bool]) ?_ (hnext _ _ h)
        simp [binOp, run_equal_bool w t _ _ (hL.isBool _ hb)]
      · exact h.elim
    · rename_i p hx hy
      split at h
      · rename_i hb
        obtain ⟨e, hu⟩ := hL.isPtr _ hb
        refine bin_wp (r := .bool false) ho (ev_sound hr hx) (ev_sound hr hy) (eqGuard_at_pointer _ _) ?_ (hnext _ _ h)
        simp [binOp, run_equal_ptr hu]
      · rename_i hb
        obtain ⟨e, hu⟩ := hL.isPtr _ hb
        refine bin_wp (r := .bool true) ho (ev_sound hr hx) (ev_sound hr hy) (eqGuard_at_pointer _ _) ?_ (hnext _ _ h)
        simp [binOp, run_equal_ptr hu]
      · exact h.elim
    · rename_i hx hy
      split at h
      · rename_i hb
        obtain ⟨e, hu⟩ := hL.isPtr _ hb
        refine bin_wp (r := .bool true) ho (ev_sound hr hx) (ev_sound hr hy) (eqGuard_at_pointer _ _) ?_ (hnext _ _ h)
        simp [binOp, run_equal_nil hu]
      · rename_i hb
        obtain ⟨e, hu⟩ := hL.isPtr _ hb
        refine bin_wp (r := .bool false) ho (ev_sound hr hx) (ev_sound hr hy) (eqGuard_at_pointer _ _) ?_ (hnext _ _ h)
        simp [binOp, run_equal_nil hu]
      · exact h.elim
    · rename_i u v hx hy
      split at h
      · exact bin_wp (r := .bool (u.toList == v.toList)) ho (ev_sound hr hx) (ev_sound hr hy) (by simp only [eqGuard_at_string]) (by simp [binOp, Op.stringOp]) (hnext _ _ (h _ rfl))
      · exact bin_wp (r := .bool (!(u.toList == v.toList))) ho (ev_sound hr hx) (ev_sound hr hy) (by simp only [eqGuard_at_string]) (by simp [binOp, Op.stringOp]) (hnext _ _ (h _ rfl))
      · exact h.elim
    · exact h.elim
  case unOp op t x =>
    split at h
    · rename_i b hx
      exact wp_of_value (v := .bool !b) (w' := w) (by unfold execOp; simp [ho, ev_sound hr hx, Op.unary]) (hnext _ _ h)
    · rename_i k u hx
      split at h
      · rename_i hs
        exact wp_of_value (v := .int k _) (w' := w) (by unfold execOp; simp [ho, ev_sound hr hx, Op.unary, Op.intBits, hs]) (hnext _ _ (h _ rfl))
      · exact h.elim
    · rename_i k u hx
      exact wp_of_value (v := .int k _) (w' := w) (by unfold execOp; simp [ho, ev_sound hr hx, Op.unary, Op.intArith]) (hnext _ _ (h _ rfl))
    · exact h.elim
  case convert src dst x =>
    split at h
    · rename_i k' u hx
      split at h
      · rename_i ks k hks hk
        refine wp_of_value (v := .int k (k.wrap u)) (w' := w) ?_ (hnext _ _ (h _ rfl))
        unfold execOp
        simp [ho, ev_sound hr hx, convert, run_underlying (hL.kind _ _ hk), run_underlying (hL.kind _ _ hks), Conv.intToInt]
      · exact h.elim
    · rename_i p m c hx
      split at h
      · exact h.elim
      · split at h
        · rename_i hb hs
          obtain ⟨s, hrun, hk⟩ := h
          obtain ⟨e, hu, hue⟩ := hL.isBytes _ hb
          refine wp_of_value (v := .string s) (w' := w) ?_ (hnext _ _ hk)
          unfold execOp
          simp [ho, ev_sound hr hx, convert, run_underlying hu, run_underlying (hL.isStr _ hs), run_underlying hue, hrun]
        · obtain ⟨u, w', hrun, hk⟩ := h
          exact wp_of_value (v := u) (w' := w') (by unfold execOp; simp [ho, ev_sound hr hx, hrun]) (hnext _ _ hk)
    · exact h.elim
  case makeFunc fn first captured =>
    split at h
    · rename_i f c hf hc
      have e1 : first.map a.eval = f.toArray := by rw [← evs_sound hr hf]; apply Array.ext'; simp
      have e2 : captured.map a.eval = c.toArray := by rw [← evs_sound hr hc]; apply Array.ext'; simp
      exact wp_of_value (v := .func fn f.toArray c.toArray) (w' := w) (by unfold execOp; simp [ho, Instr.makeFunc, e1, e2]) (hnext _ _ h)
    · exact h.elim
  case makeSlice t l c =>
    split at h
    · rename_i lv cv hl hc
      obtain ⟨v, w', hrun, hk⟩ := h
      exact wp_of_value (v := v) (w' := w') (by unfold execOp; simp [ho, ev_sound hr hl, ev_sound hr hc, hrun]) (hnext _ _ hk)
    · exact h.elim
  case slice t x lo hi mx =>
    split at h
    · rename_i size a0 m c hs hx
      obtain ⟨e, hu, i, hi', hsz⟩ := hL.slice _ _ hs
      split at h
      · obtain ⟨h1, hk⟩ := h
        refine wp_of_value (v := .slice a0 m c) (w' := w) ?_ (hnext _ _ hk)
        unfold execOp
        simp [ho, ev_sound hr hx, Instr.sliceAt, Instr.slice, run_underlying hu, Instr.sliceBounds, run_size hi']
        exact fun _ => map_add_zero a0
      · rename_i h0
        split at h
        · rename_i k hv hh
          obtain ⟨⟨h1, h2⟩, hk⟩ := h
          refine wp_of_value (v := .slice a0 hv.toNat c) (w' := w) ?_ (hnext _ _ hk)
          unfold execOp
          simp [ho, ev_sound hr hx, ev_sound hr hh, Instr.sliceAt, Instr.slice, run_underlying hu, Instr.sliceBounds, Instr.sliceBound, asIntOf, h1, h2, run_size hi']
          exact fun _ => map_add_zero a0
        · exact h.elim
      · rename_i l0
        split at h
        · rename_i k lv hl
          obtain ⟨⟨h1, h2, h3⟩, hk⟩ := h
          refine wp_of_value (v := .slice (if c = lv.toNat then a0 else a0.map (·.add (lv.toNat * size))) (m - lv.toNat) (c - lv.toNat)) (w' := w) ?_ (hnext _ _ (hk _ rfl))
          unfold execOp
          simp [ho, ev_sound hr hx, ev_sound hr hl, Instr.sliceAt, Instr.slice, run_underlying hu, Instr.sliceBounds, Instr.sliceBound, asIntOf, h1, h2, run_size hi', hsz]
        · exact h.elim
      · rename_i l0 h0
        split at h
        · rename_i k lv k' hv hl hh
          obtain ⟨⟨h1, h2, h3⟩, hk⟩ := h
          refine wp_of_value (v := .slice (if c = lv.toNat then a0 else a0.map (·.add (lv.toNat * size))) (hv.toNat - lv.toNat) (c - lv.toNat)) (w' := w) ?_ (hnext _ _ (hk _ rfl))
          unfold execOp
          have h4 : 0 ≤ hv := by omega
          have h5 : ¬ max hv 0 < lv := by omega
          simp [ho, ev_sound hr hx, ev_sound hr hl, ev_sound hr hh, Instr.sliceAt, Instr.slice, run_underlying hu, Instr.sliceBounds, Instr.sliceBound, asIntOf, h1, h3, h4, run_size hi', hsz]
          exact fun hlt => absurd hlt h5
        · exact h.elim
    · exact h.elim
  case fieldAddr t x f =>
    split at h
    · rename_i b off hx
      split at h
      · rename_i d hd
        obtain ⟨fs, fd, hu, hf, hoff, i, hi, hsz⟩ := hL.field _ _ _ hd
        refine wp_of_value (v := .pointer (some ⟨b, off + d, none⟩)) (w' := w) ?_ (hnext _ _ h)
        unfold execOp
        simp [ho, ev_sound hr hx, Instr.fieldAt, run_underlying hu, hf, Instr.sureAddr, fieldPlace, run_size hi, hsz, hoff, addr_add]
      · exact h.elim
    · exact h.elim
  case indexAddr t x ix =>
    split at h
    · rename_i a0 m c k i hx hi
      split at h
      · rename_i hs
        obtain ⟨e, hu, inf, hinf, hsz⟩ := hL.slice _ _ hs
        obtain ⟨b, off, rfl, hb, hk⟩ := h
        refine wp_of_value (v := .pointer (some ⟨b, off + i.toNat, none⟩)) (w' := w) ?_ (hnext _ _ hk)
        unfold execOp
        simp [ho, ev_sound hr hx, ev_sound hr hi, Instr.indexAt, asIntOf, run_underlying hu, hb, run_size hinf, hsz, addr_add]
      · rename_i size hne hs
        obtain ⟨e, hu, inf, hinf, hsz⟩ := hL.slice _ _ hs
        obtain ⟨b, off, rfl, hb, hk⟩ := h
        refine wp_of_value (v := .pointer (some ⟨b, off + i.toNat * size, none⟩)) (w' := w) ?_ (hnext _ _ hk)
        unfold execOp
        simp [ho, ev_sound hr hx, ev_sound hr hi, Instr.indexAt, asIntOf, run_underlying hu, hb, run_size hinf, hsz, addr_add]
      · exact h.elim
    · rename_i b off k i hx hi
      split at h
      · rename_i m size hs
        obtain ⟨e, hu, inf, hinf, hsz⟩ := hL.arr _ _ _ hs
        obtain ⟨hb, hk⟩ := h
        refine wp_of_value (v := .pointer (some ⟨b, off + i.toNat * size, none⟩)) (w' := w) ?_ (hnext _ _ hk)
        unfold execOp
        simp [ho, ev_sound hr hx, ev_sound hr hi, Instr.indexAt, asIntOf, run_underlying hu, hb, run_size hinf, hsz, addr_add, Instr.sureAddr]
      · exact h.elim
    · exact h.elim
  case extract t i =>
    split at h
    · rename_i vs hx
      split at h
      · rename_i v hv
        have hv' : vs[i]? = some v := by simpa using hv
        exact wp_of_value (v := v) (w' := w) (by unfold execOp; simp [ho, ev_sound hr hx, Instr.extract, hv']) (hnext _ _ h)
      · exact h.elim
    · exact h.elim
  case call c =>
    split at h
    · rename_i f hcal
      split at h
      · rename_i g first captured args hf hargs
        split at h
        · rename_i hcall
          obtain ⟨fn, hfn, hname, hbody⟩ := hL.call _ hcall
          have e1 : c.args.map a.eval = args.toArray := by rw [← evs_sound hr hargs]; apply Array.ext'; simp
          have e2 : (first ++ args.toArray) ++ captured = ((first.toList ++ args) ++ captured.toList).toArray := by apply Array.ext'; simp
          refine wp_of_enter (f := g) (args := ((first.toList ++ args) ++ captured.toList).toArray) (w' := w) ?_ (h.mono fun e w'' he => ?_)
          · unfold execOp
            simp only [ho, resolve, hcal, ev_sound hr hf, Deferred.ofValue, e1, Sem.run_bind, Sem.run_pure, Result.andThen_ok, invoke, e2, run_callFunc hfn hname hbody]
          · cases e with
            | returned v => exact hnext _ _ he
            | panicked _ => exact he.elim
            | outgrown => exact he.elim
        · exact h.elim
      · exact h.elim
    · rename_i b hcal
      split at h
      · rename_i m cp u t hargs hty
        split at h
        · rename_i size hs
          obtain ⟨e, hu, _⟩ := hL.slice _ _ hs
          have e1 : c.args.map a.eval = #[.slice m cp u] := by rw [show c.args.map a.eval = (c.args.toList.map a.eval).toArray by apply Array.ext'; simp, evs_sound hr hargs]
          have e2 : c.argTypes = #[t] := by rw [show c.argTypes = c.argTypes.toList.toArray by simp, hty]
          refine wp_of_value (v := .int .i64 cp) (w' := w) ?_ (hnext _ _ h)
          unfold execOp
          simp [ho, resolve, hcal, e1, e2, invoke, builtin, Builtin.len_, run_underlying hu, goInt]
        · exact h.elim
      · rename_i s x t u hargs hty
        obtain ⟨v, w', hrun, hk⟩ := h
        have e1 : c.args.map a.eval = #[s, x] := by rw [show c.args.map a.eval = (c.args.toList.map a.eval).toArray by apply Array.ext'; simp, evs_sound hr hargs]
        have e2 : c.argTypes = #[t, u] := by rw [show c.argTypes = c.argTypes.toList.toArray by simp, hty]
        refine wp_of_value (v := v) (w' := w') ?_ (hnext _ _ hk)
        unfold execOp
        simp only [ho, resolve, hcal, e1, e2, invoke, builtin, Sem.run_bind, Sem.run_pure, Result.andThen_ok, hrun]
      · rename_i s x t u hargs hty
        obtain ⟨v, w', hrun, hk⟩ := h
        have e1 : c.args.map a.eval = #[s, x] := by rw [show c.args.map a.eval = (c.args.toList.map a.eval).toArray by apply Array.ext'; simp, evs_sound hr hargs]
        have e2 : c.argTypes = #[t, u] := by rw [show c.argTypes = c.argTypes.toList.toArray by simp, hty]
        refine wp_of_value (v := v) (w' := w') ?_ (hnext _ _ hk)
        unfold execOp
        simp only [ho, resolve, hcal, e1, e2, invoke, builtin, Sem.run_bind, Sem.run_pure, Result.andThen_ok, hrun]
      · rename_i k x vs hargs
        split at h
        · rename_i z hz
          have e1 : c.args.map a.eval = (.int k x :: vs).toArray := by rw [show c.args.map a.eval = (c.args.toList.map a.eval).toArray by apply Array.ext'; simp, evs_sound hr hargs]
          refine wp_of_value (v := .int k z) (w' := w) ?_ (hnext _ _ h)
          unfold execOp
          simp only [ho, resolve, hcal, e1, invoke, builtin, Builtin.min_, Sem.run_bind, Sem.run_pure, Result.andThen_ok, minL_run k vs x z hz]
        · exact h.elim
      · exact h.elim
    · exact h.elim
  all_goals exact h.elim

theorem bin_run {op : BinOp} {t ty : Nat} {x y : Operand} {u v r : Value} (ho : o.op = .binOp op t x y ty) (hx : a.eval x = u) (hy : a.eval y = v)
    (hg : eqGuard op t x y u v = pure ()) (hrun : (binOp op t u v).run P w = .ok r w) : (execOp a.eval o).run P w = .ok (.value r) w := by
  unfold execOp
  simp only [ho, hx, hy, Sem.run_bind, hg, Sem.run_pure, Result.andThen_ok, hrun]

/-- 0: works with values alone · 1: reads memory · 2: all else -/
def opClass (L : Lay) : Op → Nat
  | .move _ => 0
  | .assign _ => 0
  | .pick _ _ _ => 0
  | .build _ _ => 0
  | .nilCheck _ => 0
  | .binOp _ _ _ _ _ => 0
  | .unOp _ _ _ => 0
  | .makeFunc _ _ _ => 0
  | .slice _ _ _ _ _ => 0
  | .fieldAddr _ _ _ => 0
  | .indexAddr _ _ _ => 0
  | .extract _ _ => 0
  | .load _ _ => 1
  | .convert src dst _ => match L.kind src, L.kind dst with
    | some _, some _ => 0
    | _, _ => match L.isBytes src, L.isStr dst with
      | true, true => 1
      | _, _ => 2
  | .call c => match c.callee with
    | .builtin .len => 0
    | .builtin .min => 0
    | _ => 2
  | _ => 2

set_option maxHeartbeats 1000000 in
theorem vcOp_pure (hL : L.Ok P) (hr : Rep n E a) {K : Value → World → Prop} (hc : opClass L o.op = 0) (h : vcOp L P o.op o.type E w K) : ∃ v, (∀ w', (execOp a.eval o).run P w' = .ok (.value v) w') ∧ K v w := by
  generalize ho : o.op = op at h hc
  cases op <;> simp only [vcOp] at h <;> first | (cases hc; done) | skip
  case move x =>
    split at h
    · rename_i v hv
      exact ⟨v, fun w => (by unfold execOp; simp [ho, ev_sound hr hv]), h⟩
    · exact h.elim
  case assign x =>
    split at h
    · rename_i v hv
      exact ⟨v, fun w => (by unfold execOp; simp [ho, ev_sound hr hv]), h⟩
    · exact h.elim
  case pick c x y =>
    split at h
    · rename_i β hc
      have h2 := bsel_elim h
      clear h
      rcases h2 with ⟨hβ, h⟩ | ⟨hβ, h⟩ <;> subst hβ
      · split at h
        · rename_i v hv
          exact ⟨v, fun w => (by unfold execOp; simp [ho, ev_sound hr hv, ev_sound hr hc, asBool]), h⟩
        · exact h.elim
      · split at h
        · rename_i v hv
          exact ⟨v, fun w => (by unfold execOp; simp [ho, ev_sound hr hv, ev_sound hr hc, asBool]), h⟩
        · exact h.elim
    · exact h.elim
  case build t parts =>
    split at h
    · rename_i ps hp
      obtain ⟨v, hrun, hk⟩ := h
      have e : (parts.map fun (i, x) => (i, a.eval x)) = ps.toArray := by
        rw [← evp_sound hr hp]; apply Array.ext'; simp
      exact ⟨v, fun w => (by unfold execOp; simp only [ho]; rw [e]; simp [hrun]), hk⟩
    · exact h.elim
  case nilCheck x =>
    split at h
    · rename_i p hx
      exact ⟨.pointer (some p), fun w => (by unfold execOp; simp [ho, ev_sound hr hx]), h⟩
    · rename_i f fs cs hx
      exact ⟨.func (.func f) fs cs, fun w => (by unfold execOp; simp [ho, ev_sound hr hx]), h⟩
    · exact h.elim
  case binOp op t x y ty =>
    split at h
    · rename_i k u k' v hx hy
      split at h
      · obtain ⟨r, hrun, hk⟩ := vcShift_run (P := P) (t := t) (k' := k') h
        exact ⟨_, fun w => bin_run ho (ev_sound hr hx) (ev_sound hr hy) (by simp only [eqGuard_at_int]) (hrun w), hk⟩
      · obtain ⟨r, hrun, hk⟩ := vcShift_run (P := P) (t := t) (k' := k') h
        exact ⟨_, fun w => bin_run ho (ev_sound hr hx) (ev_sound hr hy) (by simp only [eqGuard_at_int]) (hrun w), hk⟩
      · split at h
        · rename_i hk'
          obtain rfl := kn_inj hk'
          obtain ⟨r, hrun, hk⟩ := vcBin_run (P := P) (t := t) h
          exact ⟨_, fun w => bin_run ho (ev_sound hr hx) (ev_sound hr hy) (by simp only [eqGuard_at_int]) (hrun w), hk⟩
        · exact h.elim
    · rename_i u v hx hy
      split at h
      · rename_i hb
        refine ⟨_, fun w => bin_run (r := .bool (u == v)) ho (ev_sound hr hx) (ev_sound hr hy) (by simp only [eqGuard_at_bool]) ?_, h⟩
        simp [binOp, run_equal_bool w t _ _ (hL.isBool _ hb)]
      · rename_i hb
        refine ⟨_, fun w => bin_run (r := .bool (!(u == v))) ho (ev_sound hr hx) (ev_sound hr hy) (by simp only [eqGuard_at_bool]) ?_, h⟩
        simp [binOp, run_equal_bool w t _ _ (hL.isBool _ hb)]
      · exact h.elim
    · rename_i p hx hy
      split at h
      · rename_i hb
        obtain ⟨e, hu⟩ := hL.isPtr _ hb
        refine ⟨_, fun w => bin_run (r := .bool false) ho (ev_sound hr hx) (ev_sound hr hy) (eqGuard_at_pointer _ _) ?_, h⟩
        simp [binOp, run_equal_ptr hu]
      · rename_i hb
        obtain ⟨e, hu⟩ := hL.isPtr _ hb
        refine ⟨_, fun w => bin_run (r := .bool true) ho (ev_sound hr hx) (ev_sound hr hy) (eqGuard_at_pointer _ _) ?_, h⟩
        simp [binOp, run_equal_ptr hu]
      · exact h.elim
    · rename_i hx hy
      split at h
      · rename_i hb
        obtain ⟨e, hu⟩ := hL.isPtr _ hb
        refine ⟨_, fun w => bin_run (r := .bool true) ho (ev_sound hr hx) (ev_sound hr hy) (eqGuard_at_pointer _ _) ?_, h⟩
        simp [binOp, run_equal_nil hu]
      · rename_i hb
        obtain ⟨e, hu⟩ := hL.isPtr _ hb
        refine ⟨_, fun w => bin_run (r := .bool false) ho (ev_sound hr hx) (ev_sound hr hy) (eqGuard_at_pointer _ _) ?_, h⟩
        simp [binOp, run_equal_nil hu]
      · exact h.elim
    · rename_i u v hx hy
      split at h
      · exact ⟨_, fun w => bin_run (r := .bool (u.toList == v.toList)) ho (ev_sound hr hx) (ev_sound hr hy) (by simp only [eqGuard_at_string]) (by simp [binOp, Op.stringOp]), h _ rfl⟩
      · exact ⟨_, fun w => bin_run (r := .bool (!(u.toList == v.toList))) ho (ev_sound hr hx) (ev_sound hr hy) (by simp only [eqGuard_at_string]) (by simp [binOp, Op.stringOp]), h _ rfl⟩
      · exact h.elim
    · exact h.elim
  case unOp op t x =>
    split at h
    · rename_i b hx
      exact ⟨.bool !b, fun w => (by unfold execOp; simp [ho, ev_sound hr hx, Op.unary]), h⟩
    · rename_i k u hx
      split at h
      · rename_i hs
        exact ⟨.int k _, fun w => (by unfold execOp; simp [ho, ev_sound hr hx, Op.unary, Op.intBits, hs]), (h _ rfl)⟩
      · exact h.elim
    · rename_i k u hx
      exact ⟨.int k _, fun w => (by unfold execOp; simp [ho, ev_sound hr hx, Op.unary, Op.intArith]), (h _ rfl)⟩
    · exact h.elim
  case convert src dst x =>
    split at h
    · rename_i k' u hx
      split at h
      · rename_i ks k hks hk
        refine ⟨.int k (k.wrap u), fun w => ?_, (h _ rfl)⟩
        unfold execOp
        simp [ho, ev_sound hr hx, convert, run_underlying (hL.kind _ _ hk), run_underlying (hL.kind _ _ hks), Conv.intToInt]
      · exact h.elim
    · rename_i p m c hx
      split at h
      · exact h.elim
      · rename_i hk
        simp only [opClass, hk] at hc
        split at hc <;> cases hc
    · exact h.elim
  case makeFunc fn first captured =>
    split at h
    · rename_i f c hf hc
      have e1 : first.map a.eval = f.toArray := by rw [← evs_sound hr hf]; apply Array.ext'; simp
      have e2 : captured.map a.eval = c.toArray := by rw [← evs_sound hr hc]; apply Array.ext'; simp
      exact ⟨.func fn f.toArray c.toArray, fun w => (by unfold execOp; simp [ho, Instr.makeFunc, e1, e2]), h⟩
    · exact h.elim
  case slice t x lo hi mx =>
    split at h
    · rename_i size a0 m c hs hx
      obtain ⟨e, hu, i, hi', hsz⟩ := hL.slice _ _ hs
      split at h
      · obtain ⟨h1, hk⟩ := h
        refine ⟨.slice a0 m c, fun w => ?_, hk⟩
        unfold execOp
        simp [ho, ev_sound hr hx, Instr.sliceAt, Instr.slice, run_underlying hu, Instr.sliceBounds, run_size hi']
        exact fun _ => map_add_zero a0
      · rename_i h0
        split at h
        · rename_i k hv hh
          obtain ⟨⟨h1, h2⟩, hk⟩ := h
          refine ⟨.slice a0 hv.toNat c, fun w => ?_, hk⟩
          unfold execOp
          simp [ho, ev_sound hr hx, ev_sound hr hh, Instr.sliceAt, Instr.slice, run_underlying hu, Instr.sliceBounds, Instr.sliceBound, asIntOf, h1, h2, run_size hi']
          exact fun _ => map_add_zero a0
        · exact h.elim
      · rename_i l0
        split at h
        · rename_i k lv hl
          obtain ⟨⟨h1, h2, h3⟩, hk⟩ := h
          refine ⟨.slice (if c = lv.toNat then a0 else a0.map (·.add (lv.toNat * size))) (m - lv.toNat) (c - lv.toNat), fun w => ?_, (hk _ rfl)⟩
          unfold execOp
          simp [ho, ev_sound hr hx, ev_sound hr hl, Instr.sliceAt, Instr.slice, run_underlying hu, Instr.sliceBounds, Instr.sliceBound, asIntOf, h1, h2, run_size hi', hsz]
        · exact h.elim
      · rename_i l0 h0
        split at h
        · rename_i k lv k' hv hl hh
          obtain ⟨⟨h1, h2, h3⟩, hk⟩ := h
          refine ⟨.slice (if c = lv.toNat then a0 else a0.map (·.add (lv.toNat * size))) (hv.toNat - lv.toNat) (c - lv.toNat), fun w => ?_, (hk _ rfl)⟩
          unfold execOp
          have h4 : 0 ≤ hv := by omega
          have h5 : ¬ max hv 0 < lv := by omega
          simp [ho, ev_sound hr hx, ev_sound hr hl, ev_sound hr hh, Instr.sliceAt, Instr.slice, run_underlying hu, Instr.sliceBounds, Instr.sliceBound, asIntOf, h1, h3, h4, run_size hi', hsz]
          exact fun hlt => absurd hlt h5
        · exact h.elim
    · exact h.elim
  case fieldAddr t x f =>
    split at h
    · rename_i b off hx
      split at h
      · rename_i d hd
        obtain ⟨fs, fd, hu, hf, hoff, i, hi, hsz⟩ := hL.field _ _ _ hd
        refine ⟨.pointer (some ⟨b, off + d, none⟩), fun w => ?_, h⟩
        unfold execOp
        simp [ho, ev_sound hr hx, Instr.fieldAt, run_underlying hu, hf, Instr.sureAddr, fieldPlace, run_size hi, hsz, hoff, addr_add]
      · exact h.elim
    · exact h.elim
  case indexAddr t x ix =>
    split at h
    · rename_i a0 m c k i hx hi
      split at h
      · rename_i hs
        obtain ⟨e, hu, inf, hinf, hsz⟩ := hL.slice _ _ hs
        obtain ⟨b, off, rfl, hb, hk⟩ := h
        refine ⟨.pointer (some ⟨b, off + i.toNat, none⟩), fun w => ?_, hk⟩
        unfold execOp
        simp [ho, ev_sound hr hx, ev_sound hr hi, Instr.indexAt, asIntOf, run_underlying hu, hb, run_size hinf, hsz, addr_add]
      · rename_i size hne hs
        obtain ⟨e, hu, inf, hinf, hsz⟩ := hL.slice _ _ hs
        obtain ⟨b, off, rfl, hb, hk⟩ := h
        refine ⟨.pointer (some ⟨b, off + i.toNat * size, none⟩), fun w => ?_, hk⟩
        unfold execOp
        simp [ho, ev_sound hr hx, ev_sound hr hi, Instr.indexAt, asIntOf, run_underlying hu, hb, run_size hinf, hsz, addr_add]
      · exact h.elim
    · rename_i b off k i hx hi
      split at h
      · rename_i m size hs
        obtain ⟨e, hu, inf, hinf, hsz⟩ := hL.arr _ _ _ hs
        obtain ⟨hb, hk⟩ := h
        refine ⟨.pointer (some ⟨b, off + i.toNat * size, none⟩), fun w => ?_, hk⟩
        unfold execOp
        simp [ho, ev_sound hr hx, ev_sound hr hi, Instr.indexAt, asIntOf, run_underlying hu, hb, run_size hinf, hsz, addr_add, Instr.sureAddr]
      · exact h.elim
    · exact h.elim
  case extract t i =>
    split at h
    · rename_i vs hx
      split at h
      · rename_i v hv
        have hv' : vs[i]? = some v := by simpa using hv
        exact ⟨v, fun w => (by unfold execOp; simp [ho, ev_sound hr hx, Instr.extract, hv']), h⟩
      · exact h.elim
    · exact h.elim
  case call c =>
    split at h
    · rename_i f hcal
      simp [opClass, hcal] at hc
    · rename_i b hcal
      split at h
      · rename_i m cp u t hargs hty
        split at h
        · rename_i size hs
          obtain ⟨e, hu, _⟩ := hL.slice _ _ hs
          have e1 : c.args.map a.eval = #[.slice m cp u] := by rw [show c.args.map a.eval = (c.args.toList.map a.eval).toArray by apply Array.ext'; simp, evs_sound hr hargs]
          have e2 : c.argTypes = #[t] := by rw [show c.argTypes = c.argTypes.toList.toArray by simp, hty]
          refine ⟨.int .i64 cp, fun w => ?_, h⟩
          unfold execOp
          simp [ho, resolve, hcal, e1, e2, invoke, builtin, Builtin.len_, run_underlying hu, goInt]
        · exact h.elim
      · simp [opClass, hcal] at hc
      · simp [opClass, hcal] at hc
      · rename_i k x vs hargs
        split at h
        · rename_i z hz
          have e1 : c.args.map a.eval = (.int k x :: vs).toArray := by rw [show c.args.map a.eval = (c.args.toList.map a.eval).toArray by apply Array.ext'; simp, evs_sound hr hargs]
          refine ⟨.int k z, fun w => ?_, h⟩
          unfold execOp
          simp only [ho, resolve, hcal, e1, invoke, builtin, Builtin.min_, Sem.run_bind, Sem.run_pure, Result.andThen_ok, minL_run k vs x z hz]
        · exact h.elim
      · exact h.elim
    · exact h.elim

theorem vcPut_sound {n : Nat} {E : Env} {a : Act} (hr : Rep n E a) {dst : Option Nat} {v : Value} {K : Env → Prop} (h : vcPut n dst v E K) : ∃ E', Rep n E' (a.put dst v) ∧ K E' := by
  cases dst with
  | none => exact ⟨E, hr, h⟩
  | some d =>
    simp only [vcPut] at h
    split at h
    · rename_i hd
      exact ⟨_, hr.put (by simpa [Nat.blt_eq] using hd) v, h⟩
    · exact h.elim

theorem yielded_of {ops : Array Oper} {j d : Nat} {v : Value} (hr : Rep n E a) (hd : (ops.toList[j]?).bind (·.dst) = some d) (hv : look E d = some v) :
    yielded ops a.tmps j = match v with | .bool b => some b | _ => none := by
  have h1 : (ops[j]?).bind (·.dst) = some d := by simpa using hd
  unfold yielded
  rw [h1]
  simp only [Option.bind_some]
  rw [hr.vals _ _ hv]
  cases v <;> rfl

theorem vcOps_sound (hL : L.Ok P) {ops : Array Oper} {Q' : Exit → Act → World → Prop} : ∀ (os : List Oper) (E : Env) (a : Act) (w : World) (K : Env → World → Prop), Rep n E a →
    vcOps L P n ops os E w K → (∀ E' a' w', Rep n E' a' → K E' w' → Q' .normal a' w') → wpList P ops Q' os a w
  | [], E, a, w, K, hr, h, hK => wpList_nil (hK E a w hr h)
  | o :: os, E, a, w, K, hr, h, hK => by
    have run : ∀ (E : Env), Rep n E a → vcOp L P o.op o.type E w (fun v w' => vcPut n o.dst v E fun E' => vcOps L P n ops os E' w' K) → o.wp P a w (wpList P ops Q' os) Q' := by
      intro E hr h
      refine vcOp_sound hL hr h fun v w' hv => ?_
      obtain ⟨E', hr', h'⟩ := vcPut_sound hr hv
      exact vcOps_sound hL os E' _ w' K hr' h' hK
    have skip : ∀ (E : Env), Rep n E a → (vcPut n o.dst undef E fun E' => vcOps L P n ops os E' w K) → wpList P ops Q' os (a.put o.dst undef) w := by
      intro E hr h
      obtain ⟨E', hr', h'⟩ := vcPut_sound hr h
      exact vcOps_sound hL os E' _ w K hr' h' hK
    unfold vcOps at h
    refine wpList_step fun K' hK' => ?_
    have run' : ∀ (E : Env), Rep n E a → vcOp L P o.op o.type E w (fun v w' => vcPut n o.dst v E fun E' => vcOps L P n ops os E' w' K) → o.wp P a w K' Q' := by
      intro E hr h
      refine vcOp_sound hL hr h fun v w' hv => ?_
      obtain ⟨E', hr', h'⟩ := vcPut_sound hr hv
      exact hK' _ _ (vcOps_sound hL os E' _ w' K hr' h' hK)
    split at h
    · rename_i hg
      simp only [Region.wanted, hg, if_true]
      exact run' E hr h
    · rename_i j want hg
      split at h
      · rename_i d hd
        split at h
        · rename_i β hv
          have hy := yielded_of hr hd hv
          have hw : Region.wanted o (yielded ops a.tmps) = (β == want) := by
            simp only [Region.wanted, hg, hy]
            cases β <;> cases want <;> rfl
          rw [hw]
          have h2 := bsel_elim h
          clear h
          rcases h2 with ⟨hβ, h⟩ | ⟨hβ, h⟩ <;> subst hβ
          · cases want
            · rw [if_neg (by decide)]
              exact hK' _ _ (skip _ (hr.again hv) h)
            · simp only [beq_self_eq_true, if_true]
              exact run' _ (hr.again hv) h
          · cases want
            · simp only [beq_self_eq_true, if_true]
              exact run' _ (hr.again hv) h
            · rw [if_neg (by decide)]
              exact hK' _ _ (skip _ (hr.again hv) h)
        · rename_i vs hv
          have hy := yielded_of hr hd hv
          have hw : Region.wanted o (yielded ops a.tmps) = false := by
            simp only [Region.wanted, hg, hy]; rfl
          simp only [hw, Bool.false_eq_true, if_false]
          exact hK' _ _ (skip _ hr h)
        · exact h.elim
      · exact h.elim

theorem vc_sound (hL : L.Ok P) : ∀ (c : Code) (E : Env) (a : Act) (w : World) (Q : Exit → Env → World → Prop), Rep n E a → vc L P n c E w Q → c.wp P (lift n Q) a w
  | .skip, E, a, w, Q, hr, h => wp_skip ⟨E, hr, h⟩
  | .label _, E, a, w, Q, hr, h => wp_label ⟨E, hr, h⟩
  | .region id ops false, E, a, w, Q, hr, h => by
    unfold vc at h
    simp only at h
    split at h
    · exact wp_region_list (vcOps_sound hL _ E a w _ hr h fun E' a' w' hr' hq => ⟨E', hr', hq⟩)
    · unfold vcReg at h; exact h a hr
  | .region id ops true, E, a, w, Q, hr, h => by unfold vc vcDraw at h; exact h a hr
  | .seq x y, E, a, w, Q, hr, h => by
    refine wp_seq (wp_mono (vc_sound hL x E a w _ hr h) fun e a' w' he => ?_)
    obtain ⟨E', hr', hq⟩ := he
    cases e with
    | normal => exact vc_sound hL y E' a' w' Q hr' hq
    | exit i => exact ⟨E', hr', hq⟩
    | goto i => exact ⟨E', hr', hq⟩
    | ret => exact ⟨E', hr', hq⟩
    | panic i => exact ⟨E', hr', hq⟩
    | outgrown => exact ⟨E', hr', hq⟩
  | .cond c x y, E, a, w, Q, hr, h => by unfold vc vcCond at h; exact h a hr
  | .block id c, E, a, w, Q, hr, h => by
    refine wp_block (wp_mono (vc_sound hL c E a w _ hr h) fun e a' w' he => ?_)
    obtain ⟨E', hr', hq⟩ := he
    cases e with
    | normal => exact ⟨E', hr', hq⟩
    | exit i =>
      simp only [Exit.inBlock]
      simp only at hq
      split at hq
      · rename_i hb
        rw [if_pos (Nat.eq_of_beq_eq_true hb)]
        exact ⟨E', hr', hq⟩
      · rename_i hb
        rw [if_neg (fun e => by subst e; simp at hb)]
        exact ⟨E', hr', hq⟩
    | goto i => exact ⟨E', hr', hq⟩
    | ret => exact ⟨E', hr', hq⟩
    | panic i => exact ⟨E', hr', hq⟩
    | outgrown => exact ⟨E', hr', hq⟩
  | .loop c, E, a, w, Q, hr, h => by unfold vc vcLoop at h; exact h a hr
  | .exit id, E, a, w, Q, hr, h => wp_exit ⟨E, hr, h⟩
  | .ret, E, a, w, Q, hr, h => wp_ret ⟨E, hr, h⟩
  | .rangeFunc _ _ _ _, E, a, w, Q, hr, h => h.elim
  | .scope _, E, a, w, Q, hr, h => h.elim
  | .goto _, E, a, w, Q, hr, h => h.elim
  | .refuse _, E, a, w, Q, hr, h => h.elim

/-! ### Functions -/
def resOf (tmps : Array Value) : ResultVar → Sem Value
  | .tmp t => pure (tmps.getD t undef)
  | .cell a t => do loadVar t (← asAddr (tmps.getD a undef))

theorem vcRes_sound (hL : L.Ok P) (hr : Rep n E a) : ∀ (rs : List ResultVar) (K : List Value → Prop), vcRes L E w rs K → ∃ vs, (rs.mapM (resOf a.tmps)).run P w = .ok vs w ∧ K vs ∧ vs.length = rs.length
  | [], K, h => ⟨[], rfl, h, rfl⟩
  | .tmp t :: rs, K, h => by
    unfold vcRes at h
    split at h
    · rename_i v hv
      obtain ⟨vs, hrun, hk, hl⟩ := vcRes_sound hL hr rs _ h
      refine ⟨v :: vs, ?_, hk, by simp [hl]⟩
      have := hr.vals t v hv
      simp [resOf, hrun, Array.getD_eq_getD_getElem?, this]
    · exact h.elim
  | .cell q t :: rs, K, h => by
    unfold vcRes at h
    split at h
    · rename_i b off hv
      have hq := hr.vals q _ hv
      split at h
      · rename_i hs
        obtain ⟨v, hc, h⟩ := h
        obtain ⟨d, hu, hd, _⟩ := hL.single _ hs
        obtain ⟨vs, hrun, hk, hl⟩ := vcRes_sound hL hr rs _ h
        refine ⟨v :: vs, ?_, hk, by simp [hl]⟩
        simp [resOf, hrun, Array.getD_eq_getD_getElem?, hq, asAddr, loadVar, run_isAgg hu, hd, hc]
      · split at h
        · rename_i m hm
          obtain ⟨cs, hcl, hc, h⟩ := h
          obtain ⟨d, hu, hd, i, hi, hsz⟩ := hL.agg _ _ hm
          have hload := run_loadCells_list (P := P) w ⟨b, off, none⟩ cs (fun j v hj => by rw [addr_add]; exact hc j v hj)
          rw [hcl] at hload
          obtain ⟨vs, hrun, hk, hl⟩ := vcRes_sound hL hr rs _ h
          refine ⟨.agg cs.toArray :: vs, ?_, hk, by simp [hl]⟩
          simp [resOf, hrun, Array.getD_eq_getD_getElem?, hq, asAddr, loadVar, run_isAgg hu, hd, run_size hi, hsz, hload]
        · exact h.elim
    · exact h.elim

theorem run_results {fn : Func} {tmps : Array Value} {vs : List Value} (h : (fn.results.toList.mapM (resOf tmps)).run P w = .ok vs w) :
    (results fn tmps).run P w = .ok (match vs with | [v] => v | vs => .tuple vs.toArray) w := by
  have e : fn.results.mapM (resOf tmps) = (do let l ← fn.results.toList.mapM (resOf tmps); pure l.toArray) := by
    rw [Array.mapM_eq_mapM_toList]; simp [Functor.map]
  have e2 : results fn tmps = (do let vs ← fn.results.mapM (resOf tmps); pure (if h : vs.size = 1 then vs[0] else .tuple vs)) := by
    unfold results
    congr 1
  rw [e2, e]
  simp only [Sem.run_bind, h, Result.andThen_ok, Sem.run_pure]
  match vs with
  | [] => rfl
  | [v] => rfl
  | _ :: _ :: _ => simp

theorem argEnv_look : ∀ (vs : List Value) (i t : Nat) (v : Value), look (argEnv i vs) t = some v → i ≤ t ∧ vs[t - i]? = some v
  | [], i, t, v, h => by cases h
  | u :: us, i, t, v, h => by
    simp only [argEnv] at h
    by_cases e : i = t
    · subst e
      rw [look_cons_same] at h
      simpa using h
    · rw [look_cons_other e] at h
      obtain ⟨h1, h2⟩ := argEnv_look us (i + 1) t v h
      refine ⟨by omega, ?_⟩
      rw [show t - i = (t - (i + 1)) + 1 by omega]
      simpa using h2

/-- A contract's post: it returns, and so. -/
def Ret (R : Value → World → Prop) : Ending → World → Prop
  | .returned v, w => R v w
  | _, _ => False

theorem Calls.ret {P : Program} {f : FuncId} {args : Array Value} {w : World} {R K : Value → World → Prop} (h : Calls P f args w (Ret R)) (hk : ∀ v w', R v w' → K v w') :
    Calls P f args w fun e w' => match e with | .returned v => K v w' | _ => False :=
  h.mono fun e w' he => by
    cases e with
    | returned v => exact hk v w' he
    | panicked _ => exact he.elim
    | outgrown => exact he.elim

theorem calls_of_vc {f : FuncId} {fn : Func} {args : List Value} {R : Value → World → Prop} (hL : L.Ok P) (hf : P.funcs[f]? = some fn)
    (h : vcFn L P fn args w R) (hsz : Nat.ble args.length fn.ntmps = true) : Calls P f args.toArray w (Ret R) := by
  unfold vcFn at h
  split at h
  · rename_i c hb
    refine calls_of_wp hf hb (wp_mono (vc_sound hL c (argEnv 0 args) _ w _ ?_ h) fun e a' w' he => ?_)
    · have hsz := Nat.le_of_ble_eq_true hsz
      refine ⟨by simp; omega, rfl, fun t v hv => ?_⟩
      obtain ⟨_, h2⟩ := argEnv_look args 0 t v hv
      have ht : t < args.length := by
        rcases Nat.lt_or_ge t args.length with h' | h'
        · exact h'
        · simp [List.getElem?_eq_none h'] at h2
      simp only [Nat.sub_zero] at h2
      simp [Array.getElem?_append, ht, h2]
      simpa [List.getElem?_eq_getElem ht] using h2
    · obtain ⟨E', hr, hq⟩ := he
      have key : vcRes L E' w' fn.results.toList (fun vs => match vs with
          | [v] => R v w'
          | vs => R (.tuple vs.toArray) w') → a'.defers = [] ∧ ∃ v, (results fn a'.tmps).run P w' = .ok v w' ∧ R v w' := by
        intro hres
        obtain ⟨vs, hrun, hk, _⟩ := vcRes_sound hL hr _ _ hres
        refine ⟨hr.defers, _, run_results hrun, ?_⟩
        match vs, hk with
        | [], hk => exact hk
        | [v], hk => exact hk
        | _ :: _ :: _, hk => exact hk
      cases e with
      | normal => exact key hq
      | ret => exact key hq
      | exit i => exact hq.elim
      | goto i => exact hq.elim
      | panic i => exact hq.elim
      | outgrown => exact hq.elim
  · exact h.elim

/-! ### Conditions, loops -/
theorem vcCond_split {c : Operand} {x y : Code} {β : Bool} {Q : Exit → Env → World → Prop} (hL : L.Ok P) (hc : ev E c = some (.bool β)) (ht : β = true → vc L P n x E w Q) (hf : β = false → vc L P n y E w Q) :
    vcCond P n c x y E w Q := by
  unfold vcCond
  intro a hr
  refine wp_cond (ev_sound hr hc) ?_
  cases β
  · exact vc_sound hL y E a w Q hr (hf rfl)
  · exact vc_sound hL x E a w Q hr (ht rfl)
theorem vcCond_true {c : Operand} {x y : Code} {Q : Exit → Env → World → Prop} (hL : L.Ok P) (hc : ev E c = some (.bool true)) (ht : vc L P n x E w Q) :
    vcCond P n c x y E w Q := vcCond_split hL hc (fun _ => ht) (fun h => by cases h)
theorem vcCond_false {c : Operand} {x y : Code} {Q : Exit → Env → World → Prop} (hL : L.Ok P) (hc : ev E c = some (.bool false)) (hf : vc L P n y E w Q) :
    vcCond P n c x y E w Q := vcCond_split hL hc (fun h => by cases h) (fun _ => hf)

/-- The first frame is contained in the second. -/
def subE : Env → Env → Prop
  | [], _ => True
  | (t, v) :: M, E => (look E t = some v) ∧ subE M E

theorem subE_sound : ∀ {M E : Env}, subE M E → ∀ t v, look M t = some v → look E t = some v
  | [], E, h, t, v, hv => by cases hv
  | (s, u) :: M, E, h, t, v, hv => by
    by_cases e : s = t
    · subst e
      rw [look_cons_same] at hv
      rw [h.1]; exact hv
    · rw [look_cons_other e] at hv
      exact subE_sound h.2 t v hv

/-- what is asked where both ways of a condition meet again, or at a round's end -/
def meetK {σ : Type} (F : σ → Env) (I : σ → World → Prop) (Q : Exit → Env → World → Prop) : Exit → Env → World → Prop
  | .normal, E, w => ∃ s, subE (F s) E ∧ I s w
  | .exit i, E, w => Q (.exit i) E w
  | .goto l, E, w => Q (.goto l) E w
  | .ret, E, w => Q .ret E w
  | .panic ch, E, w => Q (.panic ch) E w
  | .outgrown, E, w => Q .outgrown E w

theorem vcLoop_inv {c : Code} {Q : Exit → Env → World → Prop} (hL : L.Ok P) {σ : Type} (F : σ → Env) (I : σ → World → Prop) (μ : σ → Nat) (s0 : σ)
    (h0 : subE (F s0) E) (hI : I s0 w) (round : ∀ s w, I s w → vc L P n c (F s) w (meetK F (fun s' w' => I s' w' ∧ μ s' < μ s) Q)) : vcLoop P n c E w Q := by
  unfold vcLoop
  intro a hr
  have key : ∀ (m : Nat) (s : σ) (a : Act) (w : World), μ s = m → Rep n (F s) a → I s w → ∀ (b : Frame) (k : List Item) (cs : List Frame),
      ∃ e a' w', lift n Q e a' w' ∧ Arrives P (lone (b.at a (.code c :: .inLoop c :: k)) cs w) b k cs e a' w' := by
    intro m
    induction m using Nat.strongRecOn with
    | _ m ih =>
      intro s a w hm hr hI b k cs
      obtain ⟨e, a₁, w₁, ⟨E₁, hr₁, hq⟩, harr⟩ := vc_sound hL c (F s) a w _ hr (round s w hI) b (.inLoop c :: k) cs
      cases e with
      | normal =>
        obtain ⟨s', hsub, hI', hlt⟩ := hq
        obtain ⟨e₂, a₂, w₂, hq₂, harr₂⟩ := ih (μ s') (hm ▸ hlt) s' a₁ w₁ rfl (hr₁.sub (subE_sound hsub)) hI' b k cs
        exact ⟨e₂, a₂, w₂, hq₂, .of_steps (Steps.trans harr (.one step_inLoop)) harr₂⟩
      | exit id => exact ⟨_, a₁, w₁, ⟨E₁, hr₁, hq⟩, .pass (x := .inLoop c) rfl (fun _ _ => .inl (by simp)) harr⟩
      | goto l => exact ⟨_, a₁, w₁, ⟨E₁, hr₁, hq⟩, .pass (x := .inLoop c) rfl (fun _ _ => .inl (by simp)) harr⟩
      | ret => exact ⟨_, a₁, w₁, ⟨E₁, hr₁, hq⟩, .pass (x := .inLoop c) rfl (fun _ _ => .inl (by simp)) harr⟩
      | panic ch => exact ⟨_, a₁, w₁, ⟨E₁, hr₁, hq⟩, .pass (x := .inLoop c) rfl (fun _ _ => .inl (by simp)) harr⟩
      | outgrown => exact ⟨_, a₁, w₁, ⟨E₁, hr₁, hq⟩, .pass (x := .inLoop c) rfl (fun _ _ => .inl (by simp)) harr⟩
  intro b k cs
  obtain ⟨e, a', w', hq, harr⟩ := key _ s0 a w rfl (hr.sub (subE_sound h0)) hI b k cs
  exact ⟨e, a', w', hq, .of_steps (.one step_loop) harr⟩

theorem vcReg_go {id : Nat} {ops : Array Oper} {Q : Exit → Env → World → Prop} (hL : L.Ok P) (h : vcOps L P n ops ops.toList E w fun E' w' => Q .normal E' w') : vcReg P n id ops E w Q := by
  unfold vcReg
  exact fun a hr => wp_region_list (vcOps_sound hL _ E a w _ hr h fun E' a' w' hr' hq => ⟨E', hr', hq⟩)

theorem upon_weaken {o : Oper} {a : Act} {next next' : Act → World → Prop} {Q Q' : Exit → Act → World → Prop} {r : Result Next} (h : o.upon P a next Q r) (hn : ∀ a w, next a w → next' a w) (hq : ∀ e a w, Q e a w → Q' e a w) : o.upon P a next' Q' r := by
  cases r with
  | ok m w' =>
    cases m <;> simp only [Oper.upon] at h ⊢
    case value v => exact hn _ _ h
    case skip => exact hn _ _ h
    case defer d => exact hn _ _ h
    case enter f args =>
      refine h.mono fun e w'' he => ?_
      cases e with
      | returned v => exact hn _ _ he
      | panicked ch => exact hq _ _ _ he
      | outgrown => exact ⟨_, _, hq _ _ _ he.choose_spec.choose_spec⟩
    case row row args => exact h.mono fun v w'' he => hn _ _ he
  | halt x w' =>
    cases x <;> simp only [Oper.upon] at h ⊢
    exact hq _ _ _ h

theorem wpList_weaken {ops : Array Oper} {Q Q' : Exit → Act → World → Prop} : ∀ (os : List Oper) (a : Act) (w : World), wpList P ops Q os a w → (∀ e a w, Q e a w → Q' e a w) → wpList P ops Q' os a w
  | [], a, w, h, hq => hq _ _ _ h
  | o :: os, a, w, h, hq => by
    unfold wpList at h ⊢
    split at h
    · rename_i hw
      rw [if_pos hw]
      rcases h with h | ⟨h1, a1, w1, h2⟩
      · exact .inl (upon_weaken h (fun a w h => wpList_weaken os a w h hq) hq)
      · exact .inr ⟨h1, a1, w1, hq _ _ _ h2⟩
    · rename_i hw
      rw [if_neg hw]
      exact wpList_weaken os _ w h hq

def memNat : List Nat → Nat → Bool
  | [], _ => false
  | a :: l, n => match Nat.beq a n with
    | true => true
    | false => memNat l n

/-- the slots that operations write -/
def writes : List Oper → List Nat
  | [] => []
  | o :: os => match o.dst with
    | some d => d :: writes os
    | none => writes os

theorem Act.put_tmps_other (a : Act) (dst : Option Nat) (v : Value) {t : Nat} (h : dst ≠ some t) : (a.put dst v).tmps[t]? = a.tmps[t]? := by
  cases dst with
  | none => rfl
  | some d =>
    have : d ≠ t := fun e => h (by rw [e])
    simp only [Act.put]
    rw [Array.getElem?_setIfInBounds]
    simp [this]

theorem wp_keep {o : Oper} {a : Act} {w : World} {next next' : Act → World → Prop} {Q Q' : Exit → Act → World → Prop} (h : o.wp P a w next Q)
    (hn : ∀ a' w', (∀ t, o.dst ≠ some t → a'.tmps[t]? = a.tmps[t]?) → next a' w' → next' a' w') (hq : ∀ ch a' w', Q (.panic ch) a' w' → Q' (.panic ch) a' w') (hout : LetsOut Q → LetsOut Q') : o.wp P a w next' Q' := by
  unfold Oper.wp at h ⊢
  generalize (execOp a.eval o).run P w = r at *
  have hp : ∀ v, ∀ t, o.dst ≠ some t → (a.put o.dst v).tmps[t]? = a.tmps[t]? := fun v t ht => Act.put_tmps_other a o.dst v ht
  cases r with
  | ok m w' =>
    cases m <;> simp only [Oper.upon] at h ⊢
    case value v => exact hn _ _ (hp v) h
    case skip => exact hn _ _ (hp undef) h
    case defer d => exact hn _ _ (fun t ht => Act.put_tmps_other { a with defers := d :: a.defers } o.dst undef ht) h
    case enter f args =>
      refine h.mono fun e w'' he => ?_
      cases e with
      | returned v => exact hn _ _ (hp v) he
      | panicked ch => exact hq _ _ _ he
      | outgrown => exact hout he
    case row row args => exact h.mono fun v w'' he => hn _ _ (hp v) he
  | halt x w' =>
    cases x <;> simp only [Oper.upon] at h ⊢
    exact hq _ _ _ h

theorem wpList_keep {ops : Array Oper} {Q : Exit → Act → World → Prop} : ∀ (os : List Oper) (a a0 : Act) (w : World), (∀ t, t ∉ writes os → a.tmps[t]? = a0.tmps[t]?) → wpList P ops Q os a w →
    wpList P ops (fun e a' w' => Q e a' w' ∧ (e = .normal → ∀ t, t ∉ writes os → a'.tmps[t]? = a.tmps[t]?)) os a w
  | [], a, a0, w, _, h => ⟨h, fun _ t _ => rfl⟩
  | o :: os, a, a0, w, _, h => by
    have hout : LetsOut Q → LetsOut (fun e a' w' => Q e a' w' ∧ (e = .normal → ∀ t, t ∉ writes (o :: os) → a'.tmps[t]? = a.tmps[t]?)) := fun ⟨a1, w1, h1⟩ => ⟨a1, w1, h1, fun e => by cases e⟩
    have step : ∀ a', (∀ t, o.dst ≠ some t → a'.tmps[t]? = a.tmps[t]?) → ∀ w', wpList P ops Q os a' w' →
        wpList P ops (fun e a'' w' => Q e a'' w' ∧ (e = .normal → ∀ t, t ∉ writes (o :: os) → a''.tmps[t]? = a.tmps[t]?)) os a' w' := by
      intro a' ha' w' h'
      refine wpList_weaken os a' w' (wpList_keep os a' a' w' (fun _ _ => rfl) h') ?_
      rintro e a'' w'' ⟨h1, h2⟩
      refine ⟨h1, fun he t ht => ?_⟩
      have hd : o.dst ≠ some t ∧ t ∉ writes os := by
        unfold writes at ht
        split at ht
        · rename_i d hd
          simp only [List.mem_cons, not_or] at ht
          exact ⟨by rw [hd]; intro e; cases e; exact ht.1 rfl, ht.2⟩
        · rename_i hd
          exact ⟨by rw [hd]; simp, ht⟩
      rw [h2 he t hd.2, ha' t hd.1]
    unfold wpList at h ⊢
    split at h
    · rename_i hw
      rw [if_pos hw]
      rcases h with h | ⟨h1, h2⟩
      · exact .inl (wp_keep h (fun a' w' ha' h' => step a' ha' w' h') (fun ch a' w' h' => ⟨h', fun e => by cases e⟩) hout)
      · exact .inr ⟨h1, hout h2⟩
    · rename_i hw
      rw [if_neg hw]
      exact step _ (fun t ht => Act.put_tmps_other a o.dst undef ht) _ h

/-- every slot of the list is among the others, or unknown in the frame -/
def staleOk (E : Env) (ns : List Nat) : List Nat → Bool
  | [] => true
  | d :: ds => match memNat ns d with
    | true => staleOk E ns ds
    | false => match look E d with
      | none => staleOk E ns ds
      | some _ => false

theorem memNat_look : ∀ {M : Env} {d : Nat}, memNat (M.map (·.1)) d = true → ∃ v, look M d = some v
  | (t, v) :: M, d, h => by
    simp only [List.map_cons, memNat] at h
    split at h
    · rename_i hb
      exact ⟨v, by simp only [look, hb]⟩
    · rename_i hb
      obtain ⟨u, hu⟩ := memNat_look h
      exact ⟨u, by simp only [look, hb]; exact hu⟩

theorem staleOk_spec {E : Env} {ns : List Nat} : ∀ {ds : List Nat}, staleOk E ns ds = true → ∀ d ∈ ds, memNat ns d = true ∨ look E d = none
  | d :: ds, h, t, ht => by
    simp only [staleOk] at h
    split at h
    · rename_i hm
      rcases List.mem_cons.1 ht with rfl | ht
      · exact .inl hm
      · exact staleOk_spec h t ht
    · split at h
      · rename_i hl
        rcases List.mem_cons.1 ht with rfl | ht
        · exact .inr hl
        · exact staleOk_spec h t ht
      · cases h

theorem look_append : ∀ (M E : Env) (t : Nat), look (M ++ E) t = match look M t with | some v => some v | none => look E t
  | [], E, t => rfl
  | (s, v) :: M, E, t => by
    simp only [List.cons_append, look]
    split
    · rfl
    · exact look_append M E t

/-- The ways through a region with guards meet again: of the slots that it writes just those of 'new' are known behind it. -/
theorem vcReg_meet {id : Nat} {ops : Array Oper} {Q : Exit → Env → World → Prop} {σ : Type} (hL : L.Ok P) (new : σ → Env) (I : σ → World → Prop) (ns : List Nat) (hns : ∀ s, (new s).map (·.1) = ns)
    (hst : staleOk E ns (writes ops.toList) = true) (h1 : vcOps L P n ops ops.toList E w fun E' w' => ∃ s, subE (new s) E' ∧ I s w') (h2 : ∀ s w', I s w' → Q .normal (new s ++ E) w') : vcReg P n id ops E w Q := by
  unfold vcReg
  intro a hr
  have hw := vcOps_sound (Q' := fun e a' w' => e = .normal ∧ ∃ E', Rep n E' a' ∧ ∃ s, subE (new s) E' ∧ I s w') hL _ E a w _ hr h1 fun E' a' w' hr' hq => ⟨rfl, E', hr', hq⟩
  refine wp_region_list (wpList_weaken _ a w (wpList_keep _ a a w (fun _ _ => rfl) hw) ?_)
  rintro e a' w' ⟨⟨rfl, E', hr', s, hsub, hI⟩, hk⟩
  refine ⟨new s ++ E, ⟨hr'.size, hr'.defers, fun t v hv => ?_⟩, h2 s w' hI⟩
  rw [look_append] at hv
  split at hv
  · rename_i u hu
    exact hr'.vals t v (subE_sound hsub t v (by rw [hu]; exact hv))
  · rename_i hu
    have ht : t ∉ writes ops.toList := by
      intro ht
      rcases staleOk_spec hst t ht with h | h
      · rw [← hns s] at h
        obtain ⟨u, h⟩ := memNat_look h
        rw [hu] at h; cases h
      · rw [hv] at h; cases h
    rw [hk rfl t ht]
    exact hr.vals t v hv

/-- Both ways of a condition meet again. -/
theorem vcCond_meet {c : Operand} {x y : Code} {Q : Exit → Env → World → Prop} {σ : Type} (F : σ → Env) (I : σ → World → Prop)
    (h1 : vcCond P n c x y E w (meetK F I Q)) (h2 : ∀ s w', I s w' → Q .normal (F s) w') : vcCond P n c x y E w Q := by
  unfold vcCond at h1 ⊢
  intro a hr
  refine wp_mono (h1 a hr) fun e a' w' he => ?_
  obtain ⟨E', hr', hq⟩ := he
  cases e with
  | normal =>
    obtain ⟨s, hsub, hI⟩ := hq
    exact ⟨F s, hr'.sub (subE_sound hsub), h2 s w' hI⟩
  | exit i => exact ⟨E', hr', hq⟩
  | goto i => exact ⟨E', hr', hq⟩
  | ret => exact ⟨E', hr', hq⟩
  | panic i => exact ⟨E', hr', hq⟩
  | outgrown => exact ⟨E', hr', hq⟩

end
end Go.Vc
