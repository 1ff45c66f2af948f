/- Plain laws of layer 7, second part: what is laid down, torn and erased, and what it tells then. No program in sight. -/
import Derived.Test.YtgipackjnncabaaPl07
set_option linter.unusedSimpArgs false
set_option linter.unusedVariables false
namespace Go.Proofs.Ytgipackjnncabaa

theorem ext0 {l m : List (BitVec 32)} (hl : l.length = m.length) (h : ∀ i, i < l.length → l.getD i 0#32 = m.getD i 0#32) : l = m := by
  apply List.ext_getElem hl
  intro i h1 h2
  have := h i h1
  simpa [List.getD, List.getElem?_eq_getElem h1, List.getElem?_eq_getElem h2] using this
theorem take_get0 (l : List (BitVec 32)) (k i : Nat) (h : i < k) : (l.take k).getD i 0#32 = l.getD i 0#32 := by
  simp [List.getD, List.getElem?_take, h]
theorem drop_get0 (l : List (BitVec 32)) (k i : Nat) : (l.drop k).getD i 0#32 = l.getD (k + i) 0#32 := by simp [List.getD, List.getElem?_drop]
theorem set_get0 (l : List (BitVec 32)) (k i : Nat) (y : BitVec 32) (hk : k < l.length) : (l.set k y).getD i 0#32 = if i = k then y else l.getD i 0#32 := by
  by_cases h : i = k
  · subst h; simp [List.getD, hk]
  · simp [List.getD, List.getElem?_set, h, Ne.symm h]
theorem fill_get0 (ws : List (BitVec 32)) (a n i : Nat) : (fillF ws a n).getD i 0#32 = if a ≤ i ∧ i < a + n ∧ i < ws.length then ones else ws.getD i 0#32 := by
  unfold List.getD
  rw [fillF_get]
  split <;> rfl
theorem app_getl (a b : List (BitVec 32)) (i : Nat) (h : i < a.length) : (a ++ b).getD i 0#32 = a.getD i 0#32 := by
  simp [List.getD, List.getElem?_append_left h]
theorem app_getr (a b : List (BitVec 32)) (i : Nat) (h : a.length ≤ i) : (a ++ b).getD i 0#32 = b.getD (i - a.length) 0#32 := by
  simp [List.getD, List.getElem?_append_right h]
theorem and_ones (x : BitVec 32) : ones &&& x = x := by
  have : ones = BitVec.allOnes 32 := by decide
  rw [this, BitVec.allOnes_and]

/-- words laid over others, from a place on -/
def putW (ws : List (BitVec 32)) (a : Nat) : List (BitVec 32) → List (BitVec 32)
  | [] => ws
  | x :: xs => putW (ws.set a (ws.getD a 0#32 &&& x)) (a + 1) xs
theorem putW_len : ∀ (xs ws : List (BitVec 32)) (a : Nat), (putW ws a xs).length = ws.length
  | [], _, _ => rfl
  | x :: xs, ws, a => by rw [putW, putW_len xs, List.length_set]
theorem putW_getD : ∀ (xs ws : List (BitVec 32)) (a i : Nat), a + xs.length ≤ ws.length →
    (putW ws a xs).getD i 0#32 = if a ≤ i ∧ i < a + xs.length then ws.getD i 0#32 &&& xs.getD (i - a) 0#32 else ws.getD i 0#32
  | [], ws, a, i, _ => by rw [putW, if_neg]; simp only [List.length_nil]; omega
  | x :: xs, ws, a, i, h => by
    rw [List.length_cons] at h
    rw [putW, putW_getD xs _ _ _ (by rw [List.length_set]; omega), set_get0 ws a i _ (by omega), List.length_cons]
    by_cases h1 : i = a
    · subst h1
      rw [if_neg (by omega), if_pos rfl, if_pos (by omega), Nat.sub_self]; rfl
    · rw [if_neg h1]
      by_cases h2 : a ≤ i ∧ i < a + (xs.length + 1)
      · rw [if_pos (by omega), if_pos h2, show i - a = (i - (a + 1)) + 1 by omega]; rfl
      · rw [if_neg (by omega), if_neg h2]

/-! ### a walk over like words -/
theorem good_take {h h' : List (BitVec 32)} {p : BitVec 32} (hl : h'.length = h.length) {k : Nat} (ht : h'.take k = h.take k) (hg : goodB h p) (hk : sizeB h + 4 ≤ k) :
    goodB h' p ∧ sizeB h' = sizeB h ∧ numB h' = numB h ∧ recB h' = recB h := by
  have hgs := goodB_size hg
  have e0 : ∀ i, i < k → h'.getD i 0#32 = h.getD i 0#32 := fun i hi => by rw [← take_get0 h' k i hi, ht, take_get0 h k i hi]
  have en : numB h' = numB h := e0 0 (by omega)
  have es : sizeB h' = sizeB h := by unfold sizeB; rw [e0 1 (by omega)]
  have er : recB h' = recB h := by
    unfold recB
    rw [es]
    apply ext0
    · simp [hl]
    · intro i hi
      have hi2 : i < sizeB h := by rw [List.length_take] at hi; omega
      rw [take_get0 _ _ _ hi2, take_get0 _ _ _ hi2, drop_get0, drop_get0, e0 _ (by omega)]
  have et : h'.take (sizeB h + 4) = h.take (sizeB h + 4) := by
    apply ext0
    · simp [hl]
    · intro i hi
      have hi2 : i < sizeB h + 4 := by rw [List.length_take] at hi; omega
      rw [take_get0 _ _ _ hi2, take_get0 _ _ _ hi2, e0 _ (by omega)]
  refine ⟨⟨⟨?_, ?_⟩, ?_⟩, es, en, er⟩
  · unfold preB; rw [hl, en, es]; exact hg.1.1
  · rw [es, en, er, et]; exact hg.1.2
  · rw [en]; exact hg.2

theorem walkF_ge : ∀ (f : Nat) (w : List (BitVec 32)) (at_ : Nat) (p : BitVec 32) (rec : List (BitVec 32)), at_ ≤ (walkF f w at_ p rec).2.2
  | 0, _, _, _, _ => Nat.le_refl _
  | f + 1, w, at_, p, rec => by
    unfold walkF
    split
    · have := walkF_ge f w (at_ + (sizeB (w.drop at_) + 4)) (numB (w.drop at_)) (recB (w.drop at_)); omega
    · exact Nat.le_refl _

theorem go_prefix {w w' : List (BitVec 32)} (hl : w'.length = w.length) : ∀ (f : Nat) (at_ : Nat) (p : BitVec 32) (rec : List (BitVec 32)), w'.take (walkF f w at_ p rec).2.2 = w.take (walkF f w at_ p rec).2.2 →
    goF w' at_ p rec = goF w' (walkF f w at_ p rec).2.2 (walkF f w at_ p rec).1 (walkF f w at_ p rec).2.1
  | 0, _, _, _, _ => rfl
  | f + 1, at_, p, rec, ht => by
    unfold walkF at ht ⊢
    by_cases hg : goodB (w.drop at_) p
    · rw [if_pos hg] at ht ⊢
      have hge := walkF_ge f w (at_ + (sizeB (w.drop at_) + 4)) (numB (w.drop at_)) (recB (w.drop at_))
      have ih := go_prefix hl f _ _ _ ht
      rw [← ih]
      generalize (walkF f w (at_ + (sizeB (w.drop at_) + 4)) (numB (w.drop at_)) (recB (w.drop at_))).2.2 = e at *
      have hd : (w'.drop at_).take (e - at_) = (w.drop at_).take (e - at_) := by
        rw [← List.drop_take, ← List.drop_take, ht]
      have g := good_take (h' := w'.drop at_) (by simp [hl]) hd hg (by omega)
      rw [goF_good g.1, g.2.1, g.2.2.1, g.2.2.2]
    · rw [if_neg hg]

theorem clean_iff {w : List (BitVec 32)} : cleanF w = true ↔ ∀ i, i < w.length → w.getD i 0#32 = ones := by
  unfold cleanF
  rw [List.all_eq_true]
  constructor
  · intro h i hi
    have := h _ (List.getElem_mem hi)
    simpa [List.getD, List.getElem?_eq_getElem hi] using this
  · intro h x hx
    obtain ⟨i, hi, rfl⟩ := List.mem_iff_getElem.1 hx
    have := h i hi
    simpa [List.getD, List.getElem?_eq_getElem hi] using this

theorem ones_not {h : List (BitVec 32)} (hh : h.length < 5 ∨ h.getD 0 0#32 = ones) : ¬ oneB h := by
  intro k
  obtain ⟨⟨k1, ⟨k2, k3⟩, _⟩, _⟩ := k
  rcases hh with hh | hh
  · omega
  · rw [show numB h = ones from hh] at k3
    exact absurd k3 (by decide)
theorem tell_empty {w : List (BitVec 32)} (hh : w.length < 5 ∨ w.getD 0 0#32 = ones) : goF w 0 0#32 [] = (0#32, [], 0) := goF_stop fun k => ones_not hh k.1
theorem tell_ones {w : List (BitVec 32)} (h : cleanF w = true) : tellF w = ⟨0#32, [], 0, true⟩ := by
  have e := tell_empty (w := w) (by
    by_cases hl : w.length < 5
    · exact .inl hl
    · exact .inr (clean_iff.1 h 0 (by omega)))
  unfold tellF
  rw [e]
  show Told.mk 0#32 [] 0 (cleanF (w.drop 0)) = _
  rw [List.drop_zero, h]

theorem laid_get0 (q : BitVec 32) (rec : List (BitVec 32)) : (laidF q rec).getD 0 0#32 = q := rfl
theorem laid_get1 (q : BitVec 32) (rec : List (BitVec 32)) : (laidF q rec).getD 1 0#32 = BitVec.ofNat 32 rec.length := rfl
theorem laid_mark (q : BitVec 32) (rec : List (BitVec 32)) : (laidF q rec).getD (rec.length + 3) 0#32 = 0#32 := by
  unfold laidF
  rw [app_getr _ _ _ (by simp)]
  simp
theorem ofNat_len {n : Nat} (h : n ≤ 64) : (BitVec.ofNat 32 n).toNat = n := by rw [BitVec.toNat_ofNat]; omega

/-- a record's words at the head are a good record -/
theorem good_laid {q : BitVec 32} {rec tail : List (BitVec 32)} {p : BitVec 32} (hq : 1 ≤ q.toNat ∧ q.toNat ≤ 2147483647) (hp : p = 0#32 ∨ q = p + 1#32) (hr : 1 ≤ rec.length ∧ rec.length ≤ 64) :
    goodB (laidF q rec ++ tail) p ∧ sizeB (laidF q rec ++ tail) = rec.length ∧ numB (laidF q rec ++ tail) = q ∧ recB (laidF q rec ++ tail) = rec := by
  have hl := laidF_len q rec
  have en : numB (laidF q rec ++ tail) = q := rfl
  have es : sizeB (laidF q rec ++ tail) = rec.length := by
    show (BitVec.ofNat 32 rec.length).toNat = _
    exact ofNat_len hr.2
  have er : recB (laidF q rec ++ tail) = rec := by
    unfold recB
    rw [es]
    show ((rec ++ [_, _]) ++ tail).take rec.length = rec
    rw [List.append_assoc, List.take_left]
  refine ⟨⟨⟨?_, ?_⟩, ?_⟩, es, en, er⟩
  · unfold preB
    rw [en, es, List.length_append, hl]
    omega
  · rw [es, en, er, ← hl, List.take_left]
  · rw [en]; exact hp

section
variable {w : List (BitVec 32)} {q : BitVec 32} {rec : List (BitVec 32)}
theorem end_le (w : List (BitVec 32)) : (tellF w).end_ ≤ w.length := (tell_ok w).1
theorem clean_get (hc : (tellF w).clean = true) (i : Nat) (h1 : (tellF w).end_ ≤ i) (h2 : i < w.length) : w.getD i 0#32 = ones := by
  have h := clean_iff.1 hc (i - (tellF w).end_) (by rw [List.length_drop]; exact Nat.sub_lt_sub_right h1 h2)
  rw [drop_get0] at h
  rw [← h, show (goF w 0 0#32 []).2.2 = (tellF w).end_ from rfl, Nat.add_sub_of_le h1]

/-- what stands behind an unchanged beginning -/
theorem go_from {w' : List (BitVec 32)} (hl : w'.length = w.length) (ht : w'.take (tellF w).end_ = w.take (tellF w).end_) : goF w' 0 0#32 [] = goF w' (tellF w).end_ (tellF w).number (tellF w).words :=
  go_prefix hl (w.length + 1) 0 0#32 [] ht

theorem put_take (w : List (BitVec 32)) (e : Nat) (xs : List (BitVec 32)) (h : e + xs.length ≤ w.length) : (putW w e xs).take e = w.take e := by
  apply ext0
  · simp [putW_len]
  · intro i hi
    have hi2 : i < e := by rw [List.length_take] at hi; omega
    rw [take_get0 _ _ _ hi2, take_get0 _ _ _ hi2, putW_getD _ _ _ _ h, if_neg (by omega)]

theorem tell_laid (hc : (tellF w).clean = true) (hq : 1 ≤ q.toNat ∧ q.toNat ≤ 2147483647) (hp : (tellF w).number = 0#32 ∨ q = (tellF w).number + 1#32) (hr : 1 ≤ rec.length ∧ rec.length ≤ 64)
    (he : (tellF w).end_ + (rec.length + 4) ≤ w.length) : tellF (putW w (tellF w).end_ (laidF q rec)) = ⟨q, rec, (tellF w).end_ + (rec.length + 4), true⟩ := by
  have hcg := fun i h1 h2 => clean_get hc i h1 h2
  have hgo := go_from (w := w) (w' := putW w (tellF w).end_ (laidF q rec)) (putW_len _ _ _) (put_take _ _ _ (by rw [laidF_len]; exact he))
  have hle := laidF_len q rec
  have hget := fun i => putW_getD (laidF q rec) w (tellF w).end_ i (by rw [laidF_len]; exact he)
  have hlen := putW_len (laidF q rec) w (tellF w).end_
  generalize tellF w = t at *
  obtain ⟨tn, tr, e, tc⟩ := t
  simp only at *
  generalize putW w e (laidF q rec) = w' at *
  have hd : w'.drop e = laidF q rec ++ w.drop (e + (rec.length + 4)) := by
    apply ext0
    · simp only [List.length_append, List.length_drop, hlen, hle]; omega
    · intro i hi
      rw [List.length_drop, hlen] at hi
      rw [drop_get0, hget]
      by_cases h : i < rec.length + 4
      · rw [if_pos (by omega), hcg _ (by omega) (by omega), and_ones, app_getl _ _ _ (by omega), show e + i - e = i by omega]
      · rw [if_neg (by omega), app_getr _ _ _ (by omega), drop_get0, hle]
        congr 1; omega
  have g := good_laid (tail := w.drop (e + (rec.length + 4))) hq hp hr
  rw [← hd] at g
  have hones : ∀ i, e + (rec.length + 4) ≤ i → i < w.length → w'.getD i 0#32 = ones := fun i h1 h2 => by rw [hget, if_neg (by omega), hcg _ (by omega) h2]
  have hst : goF w' (e + (rec.length + 4)) q rec = (q, rec, e + (rec.length + 4)) := goF_stop (fun k => ones_not (by
    by_cases h : e + (rec.length + 4) < w.length
    · right; rw [drop_get0]; exact hones _ (by omega) (by omega)
    · left; rw [List.length_drop]; omega) k.1)
  rw [goF_good g.1, g.2.1, g.2.2.1, g.2.2.2, hst] at hgo
  unfold tellF
  rw [hgo]
  have : cleanF (w'.drop (e + (rec.length + 4))) = true := clean_iff.2 fun i hi => by
    rw [List.length_drop] at hi
    rw [drop_get0]; exact hones _ (by omega) (by omega)
  rw [this]

theorem tell_torn (i : Nat) (m : BitVec 32) (hc : (tellF w).clean = true) (hr : 1 ≤ rec.length ∧ rec.length ≤ 64) (he : (tellF w).end_ + (rec.length + 4) ≤ w.length) (hi : i < rec.length + 4) :
    (laidF q rec).take i ++ [(laidF q rec).getD i 0#32 ||| ~~~m] = laidF q rec ∨
    (tellF (putW w (tellF w).end_ ((laidF q rec).take i ++ [(laidF q rec).getD i 0#32 ||| ~~~m]))).number = (tellF w).number ∧
    (tellF (putW w (tellF w).end_ ((laidF q rec).take i ++ [(laidF q rec).getD i 0#32 ||| ~~~m]))).words = (tellF w).words := by
  have hcg := fun i h1 h2 => clean_get hc i h1 h2
  have hle := laidF_len q rec
  have hyl : ((laidF q rec).take i ++ [(laidF q rec).getD i 0#32 ||| ~~~m]).length = i + 1 := by rw [List.length_append, List.length_take, hle, List.length_singleton]; omega
  have hyi : ((laidF q rec).take i ++ [(laidF q rec).getD i 0#32 ||| ~~~m]).getD i 0#32 = (laidF q rec).getD i 0#32 ||| ~~~m := by
    rw [app_getr _ _ _ (by rw [List.length_take]; omega), List.length_take, show i - min i (laidF q rec).length = 0 by omega]; rfl
  have hy1 : 1 < i → ((laidF q rec).take i ++ [(laidF q rec).getD i 0#32 ||| ~~~m]).getD 1 0#32 = BitVec.ofNat 32 rec.length := fun h => by
    rw [app_getl _ _ _ (by rw [List.length_take]; omega), take_get0 _ _ _ h, laid_get1]
  have hyf : ~~~m = 0#32 → i = rec.length + 3 → (laidF q rec).take i ++ [(laidF q rec).getD i 0#32 ||| ~~~m] = laidF q rec := fun h1 h2 => by
    rw [h1, BitVec.or_zero]
    apply ext0
    · rw [List.length_append, List.length_take, hle, List.length_singleton]; omega
    · intro k hk
      rw [List.length_append, List.length_take, hle, List.length_singleton] at hk
      by_cases h3 : k < i
      · rw [app_getl _ _ _ (by rw [List.length_take]; omega), take_get0 _ _ _ h3]
      · rw [app_getr _ _ _ (by rw [List.length_take]; omega), List.length_take, hle, show k - min i (rec.length + 4) = 0 by omega, show k = i by omega]
        rfl
  generalize (laidF q rec).take i ++ [(laidF q rec).getD i 0#32 ||| ~~~m] = y at *
  have hgo := go_from (w := w) (w' := putW w (tellF w).end_ y) (putW_len _ _ _) (put_take _ _ _ (by rw [hyl]; exact Nat.le_trans (by omega) he))
  have hget := fun i => putW_getD y w (tellF w).end_ i (by rw [hyl]; exact Nat.le_trans (by omega) he)
  have hlen := putW_len y w (tellF w).end_
  have eT : ∀ w' : List (BitVec 32), (tellF w').number = (goF w' 0 0#32 []).1 ∧ (tellF w').words = (goF w' 0 0#32 []).2.1 := fun _ => ⟨rfl, rfl⟩
  rw [(eT _).1, (eT _).2]
  clear eT
  generalize tellF w = t at *
  obtain ⟨tn, tr, e, tc⟩ := t
  simp only at *
  generalize putW w e y = w' at *
  by_cases hone : oneB (w'.drop e)
  · left
    obtain ⟨⟨k1, k2, k3, k4, k5⟩, k6⟩ := hone
    have km := ((laid_iff k5).1 k6).2
    rw [List.length_drop, hlen] at k5
    rw [drop_get0, hget] at km
    have hsz : sizeB (w'.drop e) + 3 ≤ i := by
      by_cases h : sizeB (w'.drop e) + 3 ≤ i
      · exact h
      · rw [if_neg (by rw [hyl]; omega), hcg _ (by omega) (by omega)] at km
        exact absurd km (by decide)
    have hs1 : sizeB (w'.drop e) = rec.length := by
      unfold sizeB
      rw [drop_get0, hget, if_pos (by rw [hyl]; omega), hcg _ (by omega) (by omega), and_ones, show e + 1 - e = 1 by omega, hy1 (by omega)]
      exact ofNat_len hr.2
    rw [hs1] at km hsz
    have hi2 : i = rec.length + 3 := by omega
    subst hi2
    rw [if_pos (by rw [hyl]; omega), hcg _ (by omega) (by omega), and_ones, show e + (rec.length + 3) - e = rec.length + 3 by omega, hyi, laid_mark, BitVec.zero_or] at km
    exact hyf km rfl
  · right
    rw [hgo, goF_stop (fun k => hone k.1)]
    exact ⟨rfl, rfl⟩
end

/-! ### sectors -/
/-- a sector of a flash -/
def secF (ws : List (BitVec 32)) (n : Nat) : List (BitVec 32) := (ws.drop (256 * n)).take 256
section
variable {ws : List (BitVec 32)} {n : Nat}
theorem secF_len (h : 256 * (n + 1) ≤ ws.length) : (secF ws n).length = 256 := by unfold secF; rw [List.length_take, List.length_drop]; omega
theorem secF_get (ws : List (BitVec 32)) (n i : Nat) (hi : i < 256) : (secF ws n).getD i 0#32 = ws.getD (256 * n + i) 0#32 := by
  unfold secF; rw [take_get0 _ _ _ hi, drop_get0]
theorem sec_put {e : Nat} {xs : List (BitVec 32)} (h : 256 * (n + 1) ≤ ws.length) (he : e + xs.length ≤ 256) : secF (putW ws (256 * n + e) xs) n = putW (secF ws n) e xs := by
  have hl := secF_len h
  apply ext0
  · rw [putW_len, secF_len (by rw [putW_len]; exact h), hl]
  · intro i hi
    rw [secF_len (by rw [putW_len]; exact h)] at hi
    rw [secF_get _ _ _ hi, putW_getD _ _ _ _ (by omega), putW_getD _ _ _ _ (by omega), secF_get _ _ _ hi]
    by_cases k : e ≤ i ∧ i < e + xs.length
    · rw [if_pos (by omega), if_pos k, show 256 * n + i - (256 * n + e) = i - e by omega]
    · rw [if_neg (by omega), if_neg k]
theorem sec_put_ne {e m : Nat} {xs : List (BitVec 32)} (h : 256 * (n + 1) ≤ ws.length) (he : e + xs.length ≤ 256) (hm : m ≠ n) : secF (putW ws (256 * n + e) xs) m = secF ws m := by
  apply ext0
  · unfold secF; simp [putW_len]
  · intro i hi
    have hi2 : i < 256 := by unfold secF at hi; rw [List.length_take] at hi; omega
    rw [secF_get _ _ _ hi2, secF_get _ _ _ hi2, putW_getD _ _ _ _ (by omega), if_neg]
    rcases Nat.lt_or_gt_of_ne hm with k | k <;> omega
theorem sec_fill {k : Nat} (h : 256 * (n + 1) ≤ ws.length) (hk : k ≤ 256) (i : Nat) (hi : i < 256) : (secF (fillF ws (256 * n) k) n).getD i 0#32 = if i < k then ones else (secF ws n).getD i 0#32 := by
  rw [secF_get _ _ _ hi, secF_get _ _ _ hi, fill_get0]
  by_cases j : i < k
  · rw [if_pos (by omega), if_pos j]
  · rw [if_neg (by omega), if_neg j]
theorem sec_fill_ne {k m : Nat} (hk : k ≤ 256) (hm : m ≠ n) : secF (fillF ws (256 * n) k) m = secF ws m := by
  apply ext0
  · unfold secF; simp [fillF_len]
  · intro i hi
    have hi2 : i < 256 := by unfold secF at hi; rw [List.length_take] at hi; omega
    rw [secF_get _ _ _ hi2, secF_get _ _ _ hi2, fill_get0, if_neg]
    rcases Nat.lt_or_gt_of_ne hm with k | k <;> omega
theorem tell_fill (h : 256 * (n + 1) ≤ ws.length) : tellF (secF (fillF ws (256 * n) 256) n) = ⟨0#32, [], 0, true⟩ := by
  apply tell_ones
  rw [clean_iff, secF_len (by rw [fillF_len]; exact h)]
  intro i hi
  rw [sec_fill h (Nat.le_refl _) i hi, if_pos hi]
end

/-! ### words laid down one by one -/
theorem did_ws (s : FS) (l : List (BitVec 32)) : (s.did l).ws = l := rfl
theorem did_off (s : FS) (l : List (BitVec 32)) : (s.did l).off = s.off := rfl
theorem did_ops (s : FS) (l : List (BitVec 32)) : (s.did l).ops = s.ops + 1 := rfl
theorem did_lef (s : FS) (l : List (BitVec 32)) : (s.did l).left = if 0 < s.left then s.left - 1 else s.left := rfl
theorem tore_ws (s : FS) (l : List (BitVec 32)) : (s.tore l).ws = l := rfl
def progAllF (s : FS) (a : Int) : List (BitVec 32) → FS × Int
  | [] => (s, 0)
  | x :: xs => if (progF s a x).2 = 0 then progAllF (progF s a x).1 (a + 1) xs else ((progF s a x).1, 7)

theorem progAll_cases : ∀ (xs : List (BitVec 32)) (s : FS) (a : Nat), s.off = false → a + xs.length ≤ s.ws.length →
    (∃ t, progAllF s a xs = (t, 0) ∧ t.ws = putW s.ws a xs ∧ t.off = false ∧ t.ops = s.ops + xs.length ∧ (s.left < 0 → t.left < 0) ∧ s.left - xs.length ≤ t.left) ∨
    (∃ t i, progAllF s a xs = (t, 7) ∧ i < xs.length ∧ t.ws = putW s.ws a (xs.take i ++ [xs.getD i 0#32 ||| ~~~s.mask]) ∧ t.off = true ∧ 0 ≤ s.left ∧ s.left < xs.length)
  | [], s, a, h, _ => .inl ⟨s, rfl, rfl, h, by simp, id, by simp⟩
  | x :: xs, s, a, h, hl => by
    rw [List.length_cons] at hl
    by_cases hz : s.left = 0
    · have e : progF s a x = (s.tore (s.ws.set a (s.ws.getD a 0#32 &&& (x ||| ~~~s.mask))), 7) := by
        unfold progF
        rw [h, if_neg (by simp), if_neg (by omega), if_pos hz, Int.toNat_natCast]
      refine .inr ⟨_, 0, by rw [progAllF, e]; rfl, by simp, rfl, rfl, by omega, by rw [List.length_cons]; omega⟩
    · have e : progF s a x = (s.did (s.ws.set a (s.ws.getD a 0#32 &&& x)), 0) := by
        unfold progF
        rw [h, if_neg (by simp), if_neg (by omega), if_neg hz, Int.toNat_natCast]
      have ih := progAll_cases xs (s.did (s.ws.set a (s.ws.getD a 0#32 &&& x))) (a + 1) h (by show _ ≤ (s.ws.set _ _).length; rw [List.length_set]; omega)
      have e2 : progAllF s a (x :: xs) = progAllF (s.did (s.ws.set a (s.ws.getD a 0#32 &&& x))) ((a + 1 : Nat) : Int) xs := by rw [progAllF, e]; rfl
      rw [e2]
      rcases ih with ⟨t, h1, h2, h3, h4, h5, h6⟩ | ⟨t, i, h1, h2, h3, h4, h5, h6⟩
      · refine .inl ⟨t, h1, h2, h3, ?_, fun hn => h5 ?_, ?_⟩
        · rw [h4, List.length_cons]; show s.ops + 1 + (xs.length : Int) = _; omega
        · show (if 0 < s.left then s.left - 1 else s.left) < 0
          rw [if_neg (by omega)]; exact hn
        · have h6 : (if 0 < s.left then s.left - 1 else s.left) - (xs.length : Int) ≤ t.left := h6
          rw [List.length_cons]
          split at h6 <;> omega
      · refine .inr ⟨t, i + 1, h1, by rw [List.length_cons]; omega, h3, h4, ?_⟩
        have h5 : 0 ≤ (if 0 < s.left then s.left - 1 else s.left) := h5
        have h6 : (if 0 < s.left then s.left - 1 else s.left) < (xs.length : Int) := h6
        rw [List.length_cons]
        split at h5 <;> rename_i hk
        · rw [if_pos hk] at h6; omega
        · rw [if_neg hk] at h6; omega

/-! ### a journal -/
structure JS where
  sec : Nat
  cur : Nat
  end_ : Nat
  clean : Bool
  num : BitVec 32
  words : List (BitVec 32)
  dead : Bool

def JS.kill (j : JS) : JS := ⟨j.sec, j.cur, j.end_, j.clean, j.num, j.words, true⟩
def mkJ (n c : Nat) (t : Told) : JS := ⟨n, c, t.end_, t.clean, t.number, t.words, false⟩
/-- a journal that is opened -/
def jopF (ws : List (BitVec 32)) (n : Nat) : JS :=
  if (tellF (secF ws n)).number.toNat < (tellF (secF ws (n + 1))).number.toNat then mkJ n 1 (tellF (secF ws (n + 1))) else mkJ n 0 (tellF (secF ws n))

def jputF (j : JS) (s : FS) (c e : Nat) (rec : List (BitVec 32)) : JS × FS × Int :=
  if (progAllF s (((j.sec + c) * 256 + e : Nat) : Int) (laidF (j.num + 1#32) rec)).2 = 0 then
    (⟨j.sec, c, e + (rec.length + 4), true, j.num + 1#32, rec, j.dead⟩, (progAllF s (((j.sec + c) * 256 + e : Nat) : Int) (laidF (j.num + 1#32) rec)).1, 0)
  else (j.kill, (progAllF s (((j.sec + c) * 256 + e : Nat) : Int) (laidF (j.num + 1#32) rec)).1, 7)
/-- a record is appended -/
def appendF (j : JS) (s : FS) (rec : List (BitVec 32)) : JS × FS × Int :=
  if j.dead = true ∨ s.off = true then (j.kill, s, 7)
  else if rec.length < 1 ∨ 64 < rec.length ∨ 2147483647 ≤ j.num.toNat then (j, s, 3)
  else if j.clean = true ∧ rec.length + 4 ≤ 256 - j.end_ then jputF j s j.cur j.end_ rec
  else if (eraseF s ((j.sec + (1 - j.cur) : Nat) : Int)).2 = 0 then jputF j (eraseF s ((j.sec + (1 - j.cur) : Nat) : Int)).1 (1 - j.cur) 0 rec
  else (j.kill, (eraseF s ((j.sec + (1 - j.cur) : Nat) : Int)).1, 7)

section
variable {ws vs : List (BitVec 32)} {n : Nat}
theorem open_cur (ws : List (BitVec 32)) (n : Nat) : (jopF ws n).cur ≤ 1 ∧ jopF ws n = mkJ n (jopF ws n).cur (tellF (secF ws (n + (jopF ws n).cur))) ∧
    ((tellF (secF ws (n + (1 - (jopF ws n).cur)))).number.toNat < (jopF ws n).num.toNat ∨ ((jopF ws n).cur = 0 ∧ (tellF (secF ws (n + (1 - (jopF ws n).cur)))).number.toNat ≤ (jopF ws n).num.toNat)) := by
  unfold jopF
  split
  · rename_i h
    exact ⟨Nat.le_refl 1, rfl, .inl h⟩
  · rename_i h
    exact ⟨Nat.zero_le _, rfl, .inr ⟨rfl, Nat.le_of_not_lt h⟩⟩
theorem open_of {c : Nat} {t : Told} (hc : c ≤ 1) (ht : tellF (secF ws (n + c)) = t)
    (ho : (tellF (secF ws (n + (1 - c)))).number.toNat < t.number.toNat ∨ (c = 0 ∧ (tellF (secF ws (n + (1 - c)))).number.toNat ≤ t.number.toNat)) : jopF ws n = mkJ n c t := by
  subst ht
  unfold jopF
  match c, hc with
  | 0, _ =>
    rw [if_neg]
    · rfl
    · rcases ho with h | ⟨_, h⟩
      · exact Nat.not_lt.2 (Nat.le_of_lt h)
      · exact Nat.not_lt.2 h
  | 1, _ =>
    rw [if_pos]
    rcases ho with h | ⟨h, _⟩
    · exact h
    · exact absurd h (by decide)

/-- what an opened journal tells -/
def saysF (ws : List (BitVec 32)) (n : Nat) : BitVec 32 × List (BitVec 32) := ((jopF ws n).num, (jopF ws n).words)
theorem says_of {c : Nat} {t : Told} (hc : c ≤ 1) {q : BitVec 32} {r : List (BitVec 32)} (h1 : (tellF (secF ws (n + c))).number = q) (h2 : (tellF (secF ws (n + c))).words = r)
    (ho : (tellF (secF ws (n + (1 - c)))).number.toNat < q.toNat ∨ (c = 0 ∧ (tellF (secF ws (n + (1 - c)))).number.toNat ≤ q.toNat)) : saysF ws n = (q, r) := by
  unfold saysF
  rw [open_of hc rfl (by rw [h1]; exact ho)]
  show ((tellF (secF ws (n + c))).number, (tellF (secF ws (n + c))).words) = _
  rw [h1, h2]

/-- the words beside two sectors are as they were -/
def Beside (n : Nat) (ws vs : List (BitVec 32)) : Prop := vs.length = ws.length ∧ ∀ i, i < 256 * n ∨ 256 * (n + 2) ≤ i → vs.getD i 0#32 = ws.getD i 0#32
theorem Beside.refl (n : Nat) (ws : List (BitVec 32)) : Beside n ws ws := ⟨rfl, fun _ _ => rfl⟩
theorem Beside.trans {us : List (BitVec 32)} (h : Beside n ws vs) (k : Beside n vs us) : Beside n ws us := ⟨k.1.trans h.1, fun i hi => (k.2 i hi).trans (h.2 i hi)⟩
theorem Beside.put {c e : Nat} {xs : List (BitVec 32)} (hn : 256 * (n + 2) ≤ ws.length) (hc : c ≤ 1) (he : e + xs.length ≤ 256) : Beside n ws (putW ws (256 * (n + c) + e) xs) :=
  ⟨putW_len _ _ _, fun i hi => by rw [putW_getD _ _ _ _ (by omega), if_neg (by omega)]⟩
theorem Beside.fill {c k : Nat} (hc : c ≤ 1) (hk : k ≤ 256) : Beside n ws (fillF ws (256 * (n + c)) k) :=
  ⟨fillF_len _ _ _, fun i hi => by rw [fill_get0, if_neg (by omega)]⟩

/-- words laid down behind a clean sector's records -/
theorem put_tie {s : FS} {c : Nat} {q : BitVec 32} {rec : List (BitVec 32)} (hn : 256 * (n + 2) ≤ s.ws.length) (hs : s.off = false) (hc : c ≤ 1)
    (hcl : (tellF (secF s.ws (n + c))).clean = true) (hq : 1 ≤ q.toNat ∧ q.toNat ≤ 2147483647) (hp : (tellF (secF s.ws (n + c))).number = 0#32 ∨ q = (tellF (secF s.ws (n + c))).number + 1#32)
    (hr : 1 ≤ rec.length ∧ rec.length ≤ 64) (he : (tellF (secF s.ws (n + c))).end_ + (rec.length + 4) ≤ 256) (ho : (tellF (secF s.ws (n + (1 - c)))).number.toNat < q.toNat) (a : Int) (ha : a = (((n + c) * 256 + (tellF (secF s.ws (n + c))).end_ : Nat) : Int)) :
    (∃ t, progAllF s a (laidF q rec) = (t, 0) ∧ jopF t.ws n = mkJ n c ⟨q, rec, (tellF (secF s.ws (n + c))).end_ + (rec.length + 4), true⟩ ∧ t.off = false ∧ t.ops = s.ops + (rec.length + 4 : Nat) ∧ (s.left < 0 → t.left < 0) ∧ Beside n s.ws t.ws) ∨
    (∃ t, progAllF s a (laidF q rec) = (t, 7) ∧ t.off = true ∧ 0 ≤ s.left ∧ (saysF t.ws n = (q, rec) ∨
      ((tellF (secF t.ws (n + c))).number = (tellF (secF s.ws (n + c))).number ∧ (tellF (secF t.ws (n + c))).words = (tellF (secF s.ws (n + c))).words ∧ tellF (secF t.ws (n + (1 - c))) = tellF (secF s.ws (n + (1 - c))))) ∧ Beside n s.ws t.ws) := by
  subst ha
  have hle := laidF_len q rec
  have hsl : (secF s.ws (n + c)).length = 256 := secF_len (by omega)
  have hne : n + (1 - c) ≠ n + c := by omega
  have htl := fun h => @tell_laid (secF s.ws (n + c)) q rec hcl hq hp hr h
  have htt := fun i m h => @tell_torn (secF s.ws (n + c)) q rec i m hcl hr h
  have g := progAll_cases (laidF q rec) s ((n + c) * 256 + (tellF (secF s.ws (n + c))).end_) hs (by rw [hle]; omega)
  rw [hsl] at htl htt
  rw [hle] at g
  have whole : ∀ t : FS, t.ws = putW s.ws ((n + c) * 256 + (tellF (secF s.ws (n + c))).end_) (laidF q rec) → jopF t.ws n = mkJ n c ⟨q, rec, (tellF (secF s.ws (n + c))).end_ + (rec.length + 4), true⟩ ∧ Beside n s.ws t.ws := by
    intro t e
    rw [show (n + c) * 256 + (tellF (secF s.ws (n + c))).end_ = 256 * (n + c) + (tellF (secF s.ws (n + c))).end_ by omega] at e
    refine ⟨open_of hc ?_ (.inl ?_), ?_⟩
    · rw [e, sec_put (by omega) (by rw [hle]; exact he), htl he]
    · rw [e, sec_put_ne (by omega) (by rw [hle]; exact he) hne]
      exact ho
    · rw [e]
      exact Beside.put hn hc (by rw [hle]; exact he)
  rcases g with ⟨t, g1, g2, g3, g4, g5, _⟩ | ⟨t, i, g1, g2, g3, g4, g5, _⟩
  · have k := whole t g2
    exact .inl ⟨t, g1, k.1, g3, g4, g5, k.2⟩
  · refine .inr ⟨t, g1, g4, g5, ?_⟩
    rcases htt i s.mask he g2 with k | ⟨k1, k2⟩
    · rw [k] at g3
      have k := whole t g3
      refine ⟨.inl ?_, k.2⟩
      unfold saysF
      rw [k.1]
      rfl
    · have hyl : (tellF (secF s.ws (n + c))).end_ + ((laidF q rec).take i ++ [(laidF q rec).getD i 0#32 ||| ~~~s.mask]).length ≤ 256 := by
        rw [List.length_append, List.length_take, hle, List.length_singleton]; omega
      rw [show (n + c) * 256 + (tellF (secF s.ws (n + c))).end_ = 256 * (n + c) + (tellF (secF s.ws (n + c))).end_ by omega] at g3
      refine ⟨.inr ⟨?_, ?_, ?_⟩, ?_⟩
      · rw [g3, sec_put (by omega) hyl, k1]
      · rw [g3, sec_put (by omega) hyl, k2]
      · rw [g3, sec_put_ne (by omega) hyl hne]
      · rw [g3]; exact Beside.put hn hc hyl
end

set_option maxHeartbeats 2000000 in
/-- what an Append leaves: done, or torn -/
theorem append_tie {s : FS} {n : Nat} {rec : List (BitVec 32)} (hn : 256 * (n + 2) ≤ s.ws.length) (hs : s.off = false) (hr : 1 ≤ rec.length ∧ rec.length ≤ 64) (hnum : (jopF s.ws n).num.toNat < 2147483647) :
    (∃ t, appendF (jopF s.ws n) s rec = (jopF t.ws n, t, 0) ∧ saysF t.ws n = ((jopF s.ws n).num + 1#32, rec) ∧ t.off = false ∧ (t.ops = s.ops + (rec.length + 4 : Nat) ∨ t.ops = s.ops + (rec.length + 5 : Nat)) ∧ (s.left < 0 → t.left < 0) ∧ Beside n s.ws t.ws) ∨
    (∃ t, appendF (jopF s.ws n) s rec = ((jopF s.ws n).kill, t, 7) ∧ t.off = true ∧ 0 ≤ s.left ∧ (saysF t.ws n = ((jopF s.ws n).num + 1#32, rec) ∨ saysF t.ws n = saysF s.ws n) ∧ Beside n s.ws t.ws) := by
  obtain ⟨hc, hj, ho⟩ := open_cur s.ws n
  have hok := tell_ok (secF s.ws (n + (jopF s.ws n).cur))
  have hq : 1 ≤ ((jopF s.ws n).num + 1#32).toNat ∧ ((jopF s.ws n).num + 1#32).toNat ≤ 2147483647 ∧ ((jopF s.ws n).num + 1#32).toNat = (jopF s.ws n).num.toNat + 1 := by
    rw [BitVec.toNat_add]; simp; omega
  have eN : (tellF (secF s.ws (n + (jopF s.ws n).cur))).number = (jopF s.ws n).num := (congrArg JS.num hj).symm
  have eW : (tellF (secF s.ws (n + (jopF s.ws n).cur))).words = (jopF s.ws n).words := (congrArg JS.words hj).symm
  have eE : (tellF (secF s.ws (n + (jopF s.ws n).cur))).end_ = (jopF s.ws n).end_ := (congrArg JS.end_ hj).symm
  have eC : (tellF (secF s.ws (n + (jopF s.ws n).cur))).clean = (jopF s.ws n).clean := (congrArg JS.clean hj).symm
  have eS : (jopF s.ws n).sec = n := congrArg JS.sec hj
  have eD : (jopF s.ws n).dead = false := congrArg JS.dead hj
  have eSay : saysF s.ws n = ((jopF s.ws n).num, (jopF s.ws n).words) := rfl
  have mk : ∀ c' e', JS.mk n c' e' true ((jopF s.ws n).num + 1#32) rec (jopF s.ws n).dead = mkJ n c' ⟨(jopF s.ws n).num + 1#32, rec, e', true⟩ := by
    intro c' e'
    rw [eD]; rfl
  clear hj
  generalize jopF s.ws n = j at *
  unfold appendF
  rw [if_neg (by rw [eD, hs]; simp), if_neg (by omega)]
  by_cases hroom : j.clean = true ∧ rec.length + 4 ≤ 256 - j.end_
  · rw [if_pos hroom]
    have g := put_tie (q := j.num + 1#32) (rec := rec) hn hs hc (by rw [eC]; exact hroom.1) ⟨hq.1, hq.2.1⟩ (.inr (by rw [eN])) hr (by rw [eE]; omega) (by omega) _ rfl
    unfold jputF
    rw [eE] at g
    rw [eS]
    rcases g with ⟨t, g1, g2, g3, g4, g5, g6⟩ | ⟨t, g1, g2, g3, g4, g5⟩
    · rw [g1, if_pos rfl, mk]
      refine .inl ⟨t, by rw [g2], ?_, g3, .inl g4, g5, g6⟩
      unfold saysF
      rw [g2]; rfl
    · rw [g1, if_neg (show ¬ ((7 : Int) = 0) by decide)]
      refine .inr ⟨t, rfl, g2, g3, ?_, g5⟩
      rcases g4 with g4 | ⟨k1, k2, k3⟩
      · exact .inl g4
      · right
        rw [eSay]
        refine says_of (t := ⟨0, [], 0, true⟩) hc (k1.trans eN) (k2.trans eW) ?_
        rw [k3]; exact ho
  · rw [if_neg hroom]
    have hne : n + j.cur ≠ n + (1 - j.cur) := by omega
    have hq256 : s.ws.length / 256 ≥ n + 2 := by omega
    -- an erased beginning of the other sector
    have part : ∀ k, k ≤ 256 → saysF (fillF s.ws (256 * (n + (1 - j.cur))) k) n = saysF s.ws n := by
      intro k hk
      rw [eSay]
      refine says_of (t := ⟨0, [], 0, true⟩) hc (by rw [sec_fill_ne hk hne, eN]) (by rw [sec_fill_ne hk hne, eW]) ?_
      by_cases hk0 : k = 0
      · subst hk0; rw [fillF_zero]; exact ho
      · have e0 : (tellF (secF (fillF s.ws (256 * (n + (1 - j.cur))) k) (n + (1 - j.cur)))).number = 0#32 := by
          show (goF _ 0 0#32 []).1 = _
          rw [tell_empty (.inr (by rw [sec_fill (by omega) hk 0 (by decide), if_pos (by omega)]))]
        rw [e0]
        rcases ho with h | ⟨h, _⟩
        · exact .inl (Nat.lt_of_le_of_lt (Nat.zero_le _) h)
        · exact .inr ⟨h, Nat.zero_le _⟩
    by_cases hz : s.left = 0
    · have e : eraseF s ((j.sec + (1 - j.cur) : Nat) : Int) = (s.tore (fillF s.ws (256 * (n + (1 - j.cur))) (s.mask.toNat % 257)), 7) := by
        unfold eraseF
        rw [hs, if_neg (by simp), if_neg (by rw [eS]; omega), if_pos hz, Int.toNat_natCast, eS]
      rw [e, if_neg (show ¬ ((7 : Int) = 0) by decide)]
      exact .inr ⟨s.tore (fillF s.ws (256 * (n + (1 - j.cur))) (s.mask.toNat % 257)), rfl, rfl, by omega, .inr (by rw [tore_ws]; exact part _ (by omega)), by rw [tore_ws]; exact Beside.fill (by omega) (by omega)⟩
    · have e : eraseF s ((j.sec + (1 - j.cur) : Nat) : Int) = (s.did (fillF s.ws (256 * (n + (1 - j.cur))) 256), 0) := by
        unfold eraseF
        rw [hs, if_neg (by simp), if_neg (by rw [eS]; omega), if_neg hz, Int.toNat_natCast, eS]
      rw [e, if_pos rfl]
      have hw : (s.did (fillF s.ws (256 * (n + (1 - j.cur))) 256)).ws = fillF s.ws (256 * (n + (1 - j.cur))) 256 := did_ws _ _
      have hof : (s.did (fillF s.ws (256 * (n + (1 - j.cur))) 256)).off = false := (did_off _ _).trans hs
      have hop : (s.did (fillF s.ws (256 * (n + (1 - j.cur))) 256)).ops = s.ops + 1 := did_ops _ _
      have hlf : (s.did (fillF s.ws (256 * (n + (1 - j.cur))) 256)).left = if 0 < s.left then s.left - 1 else s.left := did_lef _ _
      have hp := part 256 (Nat.le_refl _)
      have hb : Beside n s.ws (fillF s.ws (256 * (n + (1 - j.cur))) 256) := Beside.fill (by omega) (by omega)
      have ht : tellF (secF (fillF s.ws (256 * (n + (1 - j.cur))) 256) (n + (1 - j.cur))) = ⟨0#32, [], 0, true⟩ := tell_fill (by omega)
      have ht2 : tellF (secF (fillF s.ws (256 * (n + (1 - j.cur))) 256) (n + j.cur)) = tellF (secF s.ws (n + j.cur)) := by rw [sec_fill_ne (Nat.le_refl _) hne]
      have hl2 : (fillF s.ws (256 * (n + (1 - j.cur))) 256).length = s.ws.length := fillF_len _ _ _
      generalize s.did (fillF s.ws (256 * (n + (1 - j.cur))) 256) = s1 at *
      rw [← hw] at hp hb ht ht2 hl2
      clear hw
      have ecc : 1 - (1 - j.cur) = j.cur := by omega
      have g := put_tie (s := s1) (c := 1 - j.cur) (q := j.num + 1#32) (rec := rec) (n := n) (by omega) hof (by omega) (by rw [ht]) ⟨hq.1, hq.2.1⟩ (.inl (by rw [ht])) hr (by rw [ht]; show 0 + _ ≤ _; omega) (by rw [ecc, ht2, eN]; omega) _ rfl
      rw [ht, ecc] at g
      unfold jputF
      rw [eS]
      rcases g with ⟨t, g1, g2, g3, g4, g5, g6⟩ | ⟨t, g1, g2, g3, g4, g5⟩
      · rw [g1, if_pos rfl, mk]
        refine .inl ⟨t, by rw [g2], ?_, g3, .inr (by rw [g4, hop]; omega), fun h => g5 (by rw [hlf, if_neg (by omega)]; exact h), hb.trans g6⟩
        unfold saysF
        rw [g2]; rfl
      · rw [g1, if_neg (show ¬ ((7 : Int) = 0) by decide)]
        refine .inr ⟨t, rfl, g2, ?_, ?_, hb.trans g5⟩
        · rw [hlf] at g3
          split at g3 <;> omega
        · rcases g4 with g4 | ⟨k1, k2, k3⟩
          · exact .inl g4
          · right
            rw [eSay]
            refine says_of (t := ⟨0, [], 0, true⟩) hc (by rw [k3, ht2, eN]) (by rw [k3, ht2, eW]) ?_
            rw [k1]
            rcases ho with h | ⟨h, _⟩
            · exact .inl (Nat.lt_of_le_of_lt (Nat.zero_le _) h)
            · exact .inr ⟨h, Nat.zero_le _⟩
end Go.Proofs.Ytgipackjnncabaa
