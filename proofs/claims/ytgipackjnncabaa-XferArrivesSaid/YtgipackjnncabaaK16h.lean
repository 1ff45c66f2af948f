/- Own texts of this claim, joined: Pl07b, W07a, VcX, Pl22, W22a. -/
import Derived.Test.YtgipackjnncabaaK16g
import Derived.Scope

/- Plain laws of layer 7, second part: what is laid down, torn and erased, and what it tells then. No program in sight. -/
set_option linter.unusedSimpArgs false
set_option linter.unusedVariables false
namespace Go.Proofs.Ytgipackjnncabaa

theorem ext0 {l m : List (BitVec 32)} (hl : l.length = m.length) (h : ∀ i, i < l.length → l.getD i 0#32 = m.getD i 0#32) : l = m := by
  apply List.ext_getElem hl
  intro i h1 h2
  have := h i h1
  simpa [List.getD, List.getElem?_eq_getElem h1, List.getElem?_eq_getElem h2] using this
theorem take_get0 (l : List (BitVec 32)) (k i : Nat) (h : i < k) : (l.take k).getD i 0#32 = l.getD i 0#32 := by
  simp [List.getD, List.getElem?_take, h]
theorem drop_get0 (l : List (BitVec 32)) (k i : Nat) : (l.drop k).getD i 0#32 = l.getD (k + i) 0#32 := by simp [List.getD, List.getElem?_drop]
theorem set_get0 (l : List (BitVec 32)) (k i : Nat) (y : BitVec 32) (hk : k < l.length) : (l.set k y).getD i 0#32 = if i = k then y else l.getD i 0#32 := by
  by_cases h : i = k
  · subst h; simp [List.getD, hk]
  · simp [List.getD, List.getElem?_set, h, Ne.symm h]
theorem fill_get0 (ws : List (BitVec 32)) (a n i : Nat) : (fillF ws a n).getD i 0#32 = if a ≤ i ∧ i < a + n ∧ i < ws.length then ones else ws.getD i 0#32 := by
  unfold List.getD
  rw [fillF_get]
  split <;> rfl
theorem app_getl (a b : List (BitVec 32)) (i : Nat) (h : i < a.length) : (a ++ b).getD i 0#32 = a.getD i 0#32 := by
  simp [List.getD, List.getElem?_append_left h]
theorem app_getr (a b : List (BitVec 32)) (i : Nat) (h : a.length ≤ i) : (a ++ b).getD i 0#32 = b.getD (i - a.length) 0#32 := by
  simp [List.getD, List.getElem?_append_right h]
theorem and_ones (x : BitVec 32) : ones &&& x = x := by
  have : ones = BitVec.allOnes 32 := by decide
  rw [this, BitVec.allOnes_and]

/-- words laid over others, from a place on -/
def putW (ws : List (BitVec 32)) (a : Nat) : List (BitVec 32) → List (BitVec 32)
  | [] => ws
  | x :: xs => putW (ws.set a (ws.getD a 0#32 &&& x)) (a + 1) xs
theorem putW_len : ∀ (xs ws : List (BitVec 32)) (a : Nat), (putW ws a xs).length = ws.length
  | [], _, _ => rfl
  | x :: xs, ws, a => by rw [putW, putW_len xs, List.length_set]
theorem putW_getD : ∀ (xs ws : List (BitVec 32)) (a i : Nat), a + xs.length ≤ ws.length →
    (putW ws a xs).getD i 0#32 = if a ≤ i ∧ i < a + xs.length then ws.getD i 0#32 &&& xs.getD (i - a) 0#32 else ws.getD i 0#32
  | [], ws, a, i, _ => by rw [putW, if_neg]; simp only [List.length_nil]; omega
  | x :: xs, ws, a, i, h => by
    rw [List.length_cons] at h
    rw [putW, putW_getD xs _ _ _ (by rw [List.length_set]; omega), set_get0 ws a i _ (by omega), List.length_cons]
    by_cases h1 : i = a
    · subst h1
      rw [if_neg (by omega), if_pos rfl, if_pos (by omega), Nat.sub_self]; rfl
    · rw [if_neg h1]
      by_cases h2 : a ≤ i ∧ i < a + (xs.length + 1)
      · rw [if_pos (by omega), if_pos h2, show i - a = (i - (a + 1)) + 1 by omega]; rfl
      · rw [if_neg (by omega), if_neg h2]

/-! ### a walk over like words -/
theorem good_take {h h' : List (BitVec 32)} {p : BitVec 32} (hl : h'.length = h.length) {k : Nat} (ht : h'.take k = h.take k) (hg : goodB h p) (hk : sizeB h + 4 ≤ k) :
    goodB h' p ∧ sizeB h' = sizeB h ∧ numB h' = numB h ∧ recB h' = recB h := by
  have hgs := goodB_size hg
  have e0 : ∀ i, i < k → h'.getD i 0#32 = h.getD i 0#32 := fun i hi => by rw [← take_get0 h' k i hi, ht, take_get0 h k i hi]
  have en : numB h' = numB h := e0 0 (by omega)
  have es : sizeB h' = sizeB h := by unfold sizeB; rw [e0 1 (by omega)]
  have er : recB h' = recB h := by
    unfold recB
    rw [es]
    apply ext0
    · simp [hl]
    · intro i hi
      have hi2 : i < sizeB h := by rw [List.length_take] at hi; omega
      rw [take_get0 _ _ _ hi2, take_get0 _ _ _ hi2, drop_get0, drop_get0, e0 _ (by omega)]
  have et : h'.take (sizeB h + 4) = h.take (sizeB h + 4) := by
    apply ext0
    · simp [hl]
    · intro i hi
      have hi2 : i < sizeB h + 4 := by rw [List.length_take] at hi; omega
      rw [take_get0 _ _ _ hi2, take_get0 _ _ _ hi2, e0 _ (by omega)]
  refine ⟨⟨⟨?_, ?_⟩, ?_⟩, es, en, er⟩
  · unfold preB; rw [hl, en, es]; exact hg.1.1
  · rw [es, en, er, et]; exact hg.1.2
  · rw [en]; exact hg.2

theorem walkF_ge : ∀ (f : Nat) (w : List (BitVec 32)) (at_ : Nat) (p : BitVec 32) (rec : List (BitVec 32)), at_ ≤ (walkF f w at_ p rec).2.2
  | 0, _, _, _, _ => Nat.le_refl _
  | f + 1, w, at_, p, rec => by
    unfold walkF
    split
    · have := walkF_ge f w (at_ + (sizeB (w.drop at_) + 4)) (numB (w.drop at_)) (recB (w.drop at_)); omega
    · exact Nat.le_refl _

theorem go_prefix {w w' : List (BitVec 32)} (hl : w'.length = w.length) : ∀ (f : Nat) (at_ : Nat) (p : BitVec 32) (rec : List (BitVec 32)), w'.take (walkF f w at_ p rec).2.2 = w.take (walkF f w at_ p rec).2.2 →
    goF w' at_ p rec = goF w' (walkF f w at_ p rec).2.2 (walkF f w at_ p rec).1 (walkF f w at_ p rec).2.1
  | 0, _, _, _, _ => rfl
  | f + 1, at_, p, rec, ht => by
    unfold walkF at ht ⊢
    by_cases hg : goodB (w.drop at_) p
    · rw [if_pos hg] at ht ⊢
      have hge := walkF_ge f w (at_ + (sizeB (w.drop at_) + 4)) (numB (w.drop at_)) (recB (w.drop at_))
      have ih := go_prefix hl f _ _ _ ht
      rw [← ih]
      generalize (walkF f w (at_ + (sizeB (w.drop at_) + 4)) (numB (w.drop at_)) (recB (w.drop at_))).2.2 = e at *
      have hd : (w'.drop at_).take (e - at_) = (w.drop at_).take (e - at_) := by
        rw [← List.drop_take, ← List.drop_take, ht]
      have g := good_take (h' := w'.drop at_) (by simp [hl]) hd hg (by omega)
      rw [goF_good g.1, g.2.1, g.2.2.1, g.2.2.2]
    · rw [if_neg hg]

theorem clean_iff {w : List (BitVec 32)} : cleanF w = true ↔ ∀ i, i < w.length → w.getD i 0#32 = ones := by
  unfold cleanF
  rw [List.all_eq_true]
  constructor
  · intro h i hi
    have := h _ (List.getElem_mem hi)
    simpa [List.getD, List.getElem?_eq_getElem hi] using this
  · intro h x hx
    obtain ⟨i, hi, rfl⟩ := List.mem_iff_getElem.1 hx
    have := h i hi
    simpa [List.getD, List.getElem?_eq_getElem hi] using this

theorem ones_not {h : List (BitVec 32)} (hh : h.length < 5 ∨ h.getD 0 0#32 = ones) : ¬ oneB h := by
  intro k
  obtain ⟨⟨k1, ⟨k2, k3⟩, _⟩, _⟩ := k
  rcases hh with hh | hh
  · omega
  · rw [show numB h = ones from hh] at k3
    exact absurd k3 (by decide)
theorem tell_empty {w : List (BitVec 32)} (hh : w.length < 5 ∨ w.getD 0 0#32 = ones) : goF w 0 0#32 [] = (0#32, [], 0) := goF_stop fun k => ones_not hh k.1
theorem tell_ones {w : List (BitVec 32)} (h : cleanF w = true) : tellF w = ⟨0#32, [], 0, true⟩ := by
  have e := tell_empty (w := w) (by
    by_cases hl : w.length < 5
    · exact .inl hl
    · exact .inr (clean_iff.1 h 0 (by omega)))
  unfold tellF
  rw [e]
  show Told.mk 0#32 [] 0 (cleanF (w.drop 0)) = _
  rw [List.drop_zero, h]

theorem laid_get0 (q : BitVec 32) (rec : List (BitVec 32)) : (laidF q rec).getD 0 0#32 = q := rfl
theorem laid_get1 (q : BitVec 32) (rec : List (BitVec 32)) : (laidF q rec).getD 1 0#32 = BitVec.ofNat 32 rec.length := rfl
theorem laid_mark (q : BitVec 32) (rec : List (BitVec 32)) : (laidF q rec).getD (rec.length + 3) 0#32 = 0#32 := by
  unfold laidF
  rw [app_getr _ _ _ (by simp)]
  simp
theorem ofNat_len {n : Nat} (h : n ≤ 64) : (BitVec.ofNat 32 n).toNat = n := by rw [BitVec.toNat_ofNat]; omega

/-- a record's words at the head are a good record -/
theorem good_laid {q : BitVec 32} {rec tail : List (BitVec 32)} {p : BitVec 32} (hq : 1 ≤ q.toNat ∧ q.toNat ≤ 2147483647) (hp : p = 0#32 ∨ q = p + 1#32) (hr : 1 ≤ rec.length ∧ rec.length ≤ 64) :
    goodB (laidF q rec ++ tail) p ∧ sizeB (laidF q rec ++ tail) = rec.length ∧ numB (laidF q rec ++ tail) = q ∧ recB (laidF q rec ++ tail) = rec := by
  have hl := laidF_len q rec
  have en : numB (laidF q rec ++ tail) = q := rfl
  have es : sizeB (laidF q rec ++ tail) = rec.length := by
    show (BitVec.ofNat 32 rec.length).toNat = _
    exact ofNat_len hr.2
  have er : recB (laidF q rec ++ tail) = rec := by
    unfold recB
    rw [es]
    show ((rec ++ [_, _]) ++ tail).take rec.length = rec
    rw [List.append_assoc, List.take_left]
  refine ⟨⟨⟨?_, ?_⟩, ?_⟩, es, en, er⟩
  · unfold preB
    rw [en, es, List.length_append, hl]
    omega
  · rw [es, en, er, ← hl, List.take_left]
  · rw [en]; exact hp

section
variable {w : List (BitVec 32)} {q : BitVec 32} {rec : List (BitVec 32)}
theorem end_le (w : List (BitVec 32)) : (tellF w).end_ ≤ w.length := (tell_ok w).1
theorem clean_get (hc : (tellF w).clean = true) (i : Nat) (h1 : (tellF w).end_ ≤ i) (h2 : i < w.length) : w.getD i 0#32 = ones := by
  have h := clean_iff.1 hc (i - (tellF w).end_) (by rw [List.length_drop]; exact Nat.sub_lt_sub_right h1 h2)
  rw [drop_get0] at h
  rw [← h, show (goF w 0 0#32 []).2.2 = (tellF w).end_ from rfl, Nat.add_sub_of_le h1]

/-- what stands behind an unchanged beginning -/
theorem go_from {w' : List (BitVec 32)} (hl : w'.length = w.length) (ht : w'.take (tellF w).end_ = w.take (tellF w).end_) : goF w' 0 0#32 [] = goF w' (tellF w).end_ (tellF w).number (tellF w).words :=
  go_prefix hl (w.length + 1) 0 0#32 [] ht

theorem put_take (w : List (BitVec 32)) (e : Nat) (xs : List (BitVec 32)) (h : e + xs.length ≤ w.length) : (putW w e xs).take e = w.take e := by
  apply ext0
  · simp [putW_len]
  · intro i hi
    have hi2 : i < e := by rw [List.length_take] at hi; omega
    rw [take_get0 _ _ _ hi2, take_get0 _ _ _ hi2, putW_getD _ _ _ _ h, if_neg (by omega)]

theorem tell_laid (hc : (tellF w).clean = true) (hq : 1 ≤ q.toNat ∧ q.toNat ≤ 2147483647) (hp : (tellF w).number = 0#32 ∨ q = (tellF w).number + 1#32) (hr : 1 ≤ rec.length ∧ rec.length ≤ 64)
    (he : (tellF w).end_ + (rec.length + 4) ≤ w.length) : tellF (putW w (tellF w).end_ (laidF q rec)) = ⟨q, rec, (tellF w).end_ + (rec.length + 4), true⟩ := by
  have hcg := fun i h1 h2 => clean_get hc i h1 h2
  have hgo := go_from (w := w) (w' := putW w (tellF w).end_ (laidF q rec)) (putW_len _ _ _) (put_take _ _ _ (by rw [laidF_len]; exact he))
  have hle := laidF_len q rec
  have hget := fun i => putW_getD (laidF q rec) w (tellF w).end_ i (by rw [laidF_len]; exact he)
  have hlen := putW_len (laidF q rec) w (tellF w).end_
  generalize tellF w = t at *
  obtain ⟨tn, tr, e, tc⟩ := t
  simp only at *
  generalize putW w e (laidF q rec) = w' at *
  have hd : w'.drop e = laidF q rec ++ w.drop (e + (rec.length + 4)) := by
    apply ext0
    · simp only [List.length_append, List.length_drop, hlen, hle]; omega
    · intro i hi
      rw [List.length_drop, hlen] at hi
      rw [drop_get0, hget]
      by_cases h : i < rec.length + 4
      · rw [if_pos (by omega), hcg _ (by omega) (by omega), and_ones, app_getl _ _ _ (by omega), show e + i - e = i by omega]
      · rw [if_neg (by omega), app_getr _ _ _ (by omega), drop_get0, hle]
        congr 1; omega
  have g := good_laid (tail := w.drop (e + (rec.length + 4))) hq hp hr
  rw [← hd] at g
  have hones : ∀ i, e + (rec.length + 4) ≤ i → i < w.length → w'.getD i 0#32 = ones := fun i h1 h2 => by rw [hget, if_neg (by omega), hcg _ (by omega) h2]
  have hst : goF w' (e + (rec.length + 4)) q rec = (q, rec, e + (rec.length + 4)) := goF_stop (fun k => ones_not (by
    by_cases h : e + (rec.length + 4) < w.length
    · right; rw [drop_get0]; exact hones _ (by omega) (by omega)
    · left; rw [List.length_drop]; omega) k.1)
  rw [goF_good g.1, g.2.1, g.2.2.1, g.2.2.2, hst] at hgo
  unfold tellF
  rw [hgo]
  have : cleanF (w'.drop (e + (rec.length + 4))) = true := clean_iff.2 fun i hi => by
    rw [List.length_drop] at hi
    rw [drop_get0]; exact hones _ (by omega) (by omega)
  rw [this]

theorem tell_torn (i : Nat) (m : BitVec 32) (hc : (tellF w).clean = true) (hr : 1 ≤ rec.length ∧ rec.length ≤ 64) (he : (tellF w).end_ + (rec.length + 4) ≤ w.length) (hi : i < rec.length + 4) :
    (laidF q rec).take i ++ [(laidF q rec).getD i 0#32 ||| ~~~m] = laidF q rec ∨
    (tellF (putW w (tellF w).end_ ((laidF q rec).take i ++ [(laidF q rec).getD i 0#32 ||| ~~~m]))).number = (tellF w).number ∧
    (tellF (putW w (tellF w).end_ ((laidF q rec).take i ++ [(laidF q rec).getD i 0#32 ||| ~~~m]))).words = (tellF w).words := by
  have hcg := fun i h1 h2 => clean_get hc i h1 h2
  have hle := laidF_len q rec
  have hyl : ((laidF q rec).take i ++ [(laidF q rec).getD i 0#32 ||| ~~~m]).length = i + 1 := by rw [List.length_append, List.length_take, hle, List.length_singleton]; omega
  have hyi : ((laidF q rec).take i ++ [(laidF q rec).getD i 0#32 ||| ~~~m]).getD i 0#32 = (laidF q rec).getD i 0#32 ||| ~~~m := by
    rw [app_getr _ _ _ (by rw [List.length_take]; omega), List.length_take, show i - min i (laidF q rec).length = 0 by omega]; rfl
  have hy1 : 1 < i → ((laidF q rec).take i ++ [(laidF q rec).getD i 0#32 ||| ~~~m]).getD 1 0#32 = BitVec.ofNat 32 rec.length := fun h => by
    rw [app_getl _ _ _ (by rw [List.length_take]; omega), take_get0 _ _ _ h, laid_get1]
  have hyf : ~~~m = 0#32 → i = rec.length + 3 → (laidF q rec).take i ++ [(laidF q rec).getD i 0#32 ||| ~~~m] = laidF q rec := fun h1 h2 => by
    rw [h1, BitVec.or_zero]
    apply ext0
    · rw [List.length_append, List.length_take, hle, List.length_singleton]; omega
    · intro k hk
      rw [List.length_append, List.length_take, hle, List.length_singleton] at hk
      by_cases h3 : k < i
      · rw [app_getl _ _ _ (by rw [List.length_take]; omega), take_get0 _ _ _ h3]
      · rw [app_getr _ _ _ (by rw [List.length_take]; omega), List.length_take, hle, show k - min i (rec.length + 4) = 0 by omega, show k = i by omega]
        rfl
  generalize (laidF q rec).take i ++ [(laidF q rec).getD i 0#32 ||| ~~~m] = y at *
  have hgo := go_from (w := w) (w' := putW w (tellF w).end_ y) (putW_len _ _ _) (put_take _ _ _ (by rw [hyl]; exact Nat.le_trans (by omega) he))
  have hget := fun i => putW_getD y w (tellF w).end_ i (by rw [hyl]; exact Nat.le_trans (by omega) he)
  have hlen := putW_len y w (tellF w).end_
  have eT : ∀ w' : List (BitVec 32), (tellF w').number = (goF w' 0 0#32 []).1 ∧ (tellF w').words = (goF w' 0 0#32 []).2.1 := fun _ => ⟨rfl, rfl⟩
  rw [(eT _).1, (eT _).2]
  clear eT
  generalize tellF w = t at *
  obtain ⟨tn, tr, e, tc⟩ := t
  simp only at *
  generalize putW w e y = w' at *
  by_cases hone : oneB (w'.drop e)
  · left
    obtain ⟨⟨k1, k2, k3, k4, k5⟩, k6⟩ := hone
    have km := ((laid_iff k5).1 k6).2
    rw [List.length_drop, hlen] at k5
    rw [drop_get0, hget] at km
    have hsz : sizeB (w'.drop e) + 3 ≤ i := by
      by_cases h : sizeB (w'.drop e) + 3 ≤ i
      · exact h
      · rw [if_neg (by rw [hyl]; omega), hcg _ (by omega) (by omega)] at km
        exact absurd km (by decide)
    have hs1 : sizeB (w'.drop e) = rec.length := by
      unfold sizeB
      rw [drop_get0, hget, if_pos (by rw [hyl]; omega), hcg _ (by omega) (by omega), and_ones, show e + 1 - e = 1 by omega, hy1 (by omega)]
      exact ofNat_len hr.2
    rw [hs1] at km hsz
    have hi2 : i = rec.length + 3 := by omega
    subst hi2
    rw [if_pos (by rw [hyl]; omega), hcg _ (by omega) (by omega), and_ones, show e + (rec.length + 3) - e = rec.length + 3 by omega, hyi, laid_mark, BitVec.zero_or] at km
    exact hyf km rfl
  · right
    rw [hgo, goF_stop (fun k => hone k.1)]
    exact ⟨rfl, rfl⟩
end

/-! ### sectors -/
/-- a sector of a flash -/
def secF (ws : List (BitVec 32)) (n : Nat) : List (BitVec 32) := (ws.drop (256 * n)).take 256
section
variable {ws : List (BitVec 32)} {n : Nat}
theorem secF_len (h : 256 * (n + 1) ≤ ws.length) : (secF ws n).length = 256 := by unfold secF; rw [List.length_take, List.length_drop]; omega
theorem secF_get (ws : List (BitVec 32)) (n i : Nat) (hi : i < 256) : (secF ws n).getD i 0#32 = ws.getD (256 * n + i) 0#32 := by
  unfold secF; rw [take_get0 _ _ _ hi, drop_get0]
theorem sec_put {e : Nat} {xs : List (BitVec 32)} (h : 256 * (n + 1) ≤ ws.length) (he : e + xs.length ≤ 256) : secF (putW ws (256 * n + e) xs) n = putW (secF ws n) e xs := by
  have hl := secF_len h
  apply ext0
  · rw [putW_len, secF_len (by rw [putW_len]; exact h), hl]
  · intro i hi
    rw [secF_len (by rw [putW_len]; exact h)] at hi
    rw [secF_get _ _ _ hi, putW_getD _ _ _ _ (by omega), putW_getD _ _ _ _ (by omega), secF_get _ _ _ hi]
    by_cases k : e ≤ i ∧ i < e + xs.length
    · rw [if_pos (by omega), if_pos k, show 256 * n + i - (256 * n + e) = i - e by omega]
    · rw [if_neg (by omega), if_neg k]
theorem sec_put_ne {e m : Nat} {xs : List (BitVec 32)} (h : 256 * (n + 1) ≤ ws.length) (he : e + xs.length ≤ 256) (hm : m ≠ n) : secF (putW ws (256 * n + e) xs) m = secF ws m := by
  apply ext0
  · unfold secF; simp [putW_len]
  · intro i hi
    have hi2 : i < 256 := by unfold secF at hi; rw [List.length_take] at hi; omega
    rw [secF_get _ _ _ hi2, secF_get _ _ _ hi2, putW_getD _ _ _ _ (by omega), if_neg]
    rcases Nat.lt_or_gt_of_ne hm with k | k <;> omega
theorem sec_fill {k : Nat} (h : 256 * (n + 1) ≤ ws.length) (hk : k ≤ 256) (i : Nat) (hi : i < 256) : (secF (fillF ws (256 * n) k) n).getD i 0#32 = if i < k then ones else (secF ws n).getD i 0#32 := by
  rw [secF_get _ _ _ hi, secF_get _ _ _ hi, fill_get0]
  by_cases j : i < k
  · rw [if_pos (by omega), if_pos j]
  · rw [if_neg (by omega), if_neg j]
theorem sec_fill_ne {k m : Nat} (hk : k ≤ 256) (hm : m ≠ n) : secF (fillF ws (256 * n) k) m = secF ws m := by
  apply ext0
  · unfold secF; simp [fillF_len]
  · intro i hi
    have hi2 : i < 256 := by unfold secF at hi; rw [List.length_take] at hi; omega
    rw [secF_get _ _ _ hi2, secF_get _ _ _ hi2, fill_get0, if_neg]
    rcases Nat.lt_or_gt_of_ne hm with k | k <;> omega
theorem tell_fill (h : 256 * (n + 1) ≤ ws.length) : tellF (secF (fillF ws (256 * n) 256) n) = ⟨0#32, [], 0, true⟩ := by
  apply tell_ones
  rw [clean_iff, secF_len (by rw [fillF_len]; exact h)]
  intro i hi
  rw [sec_fill h (Nat.le_refl _) i hi, if_pos hi]
end

/-! ### words laid down one by one -/
theorem did_ws (s : FS) (l : List (BitVec 32)) : (s.did l).ws = l := rfl
theorem did_off (s : FS) (l : List (BitVec 32)) : (s.did l).off = s.off := rfl
theorem did_ops (s : FS) (l : List (BitVec 32)) : (s.did l).ops = s.ops + 1 := rfl
theorem did_lef (s : FS) (l : List (BitVec 32)) : (s.did l).left = if 0 < s.left then s.left - 1 else s.left := rfl
theorem tore_ws (s : FS) (l : List (BitVec 32)) : (s.tore l).ws = l := rfl
def progAllF (s : FS) (a : Int) : List (BitVec 32) → FS × Int
  | [] => (s, 0)
  | x :: xs => if (progF s a x).2 = 0 then progAllF (progF s a x).1 (a + 1) xs else ((progF s a x).1, 7)

theorem progAll_cases : ∀ (xs : List (BitVec 32)) (s : FS) (a : Nat), s.off = false → a + xs.length ≤ s.ws.length →
    (∃ t, progAllF s a xs = (t, 0) ∧ t.ws = putW s.ws a xs ∧ t.off = false ∧ t.ops = s.ops + xs.length ∧ (s.left < 0 → t.left < 0) ∧ s.left - xs.length ≤ t.left) ∨
    (∃ t i, progAllF s a xs = (t, 7) ∧ i < xs.length ∧ t.ws = putW s.ws a (xs.take i ++ [xs.getD i 0#32 ||| ~~~s.mask]) ∧ t.off = true ∧ 0 ≤ s.left ∧ s.left < xs.length)
  | [], s, a, h, _ => .inl ⟨s, rfl, rfl, h, by simp, id, by simp⟩
  | x :: xs, s, a, h, hl => by
    rw [List.length_cons] at hl
    by_cases hz : s.left = 0
    · have e : progF s a x = (s.tore (s.ws.set a (s.ws.getD a 0#32 &&& (x ||| ~~~s.mask))), 7) := by
        unfold progF
        rw [h, if_neg (by simp), if_neg (by omega), if_pos hz, Int.toNat_natCast]
      refine .inr ⟨_, 0, by rw [progAllF, e]; rfl, by simp, rfl, rfl, by omega, by rw [List.length_cons]; omega⟩
    · have e : progF s a x = (s.did (s.ws.set a (s.ws.getD a 0#32 &&& x)), 0) := by
        unfold progF
        rw [h, if_neg (by simp), if_neg (by omega), if_neg hz, Int.toNat_natCast]
      have ih := progAll_cases xs (s.did (s.ws.set a (s.ws.getD a 0#32 &&& x))) (a + 1) h (by show _ ≤ (s.ws.set _ _).length; rw [List.length_set]; omega)
      have e2 : progAllF s a (x :: xs) = progAllF (s.did (s.ws.set a (s.ws.getD a 0#32 &&& x))) ((a + 1 : Nat) : Int) xs := by rw [progAllF, e]; rfl
      rw [e2]
      rcases ih with ⟨t, h1, h2, h3, h4, h5, h6⟩ | ⟨t, i, h1, h2, h3, h4, h5, h6⟩
      · refine .inl ⟨t, h1, h2, h3, ?_, fun hn => h5 ?_, ?_⟩
        · rw [h4, List.length_cons]; show s.ops + 1 + (xs.length : Int) = _; omega
        · show (if 0 < s.left then s.left - 1 else s.left) < 0
          rw [if_neg (by omega)]; exact hn
        · have h6 : (if 0 < s.left then s.left - 1 else s.left) - (xs.length : Int) ≤ t.left := h6
          rw [List.length_cons]
          split at h6 <;> omega
      · refine .inr ⟨t, i + 1, h1, by rw [List.length_cons]; omega, h3, h4, ?_⟩
        have h5 : 0 ≤ (if 0 < s.left then s.left - 1 else s.left) := h5
        have h6 : (if 0 < s.left then s.left - 1 else s.left) < (xs.length : Int) := h6
        rw [List.length_cons]
        split at h5 <;> rename_i hk
        · rw [if_pos hk] at h6; omega
        · rw [if_neg hk] at h6; omega

/-! ### a journal -/
structure JS where
  sec : Nat
  cur : Nat
  end_ : Nat
  clean : Bool
  num : BitVec 32
  words : List (BitVec 32)
  dead : Bool

def JS.kill (j : JS) : JS := ⟨j.sec, j.cur, j.end_, j.clean, j.num, j.words, true⟩
def mkJ (n c : Nat) (t : Told) : JS := ⟨n, c, t.end_, t.clean, t.number, t.words, false⟩
/-- a journal that is opened -/
def jopF (ws : List (BitVec 32)) (n : Nat) : JS :=
  if (tellF (secF ws n)).number.toNat < (tellF (secF ws (n + 1))).number.toNat then mkJ n 1 (tellF (secF ws (n + 1))) else mkJ n 0 (tellF (secF ws n))

def jputF (j : JS) (s : FS) (c e : Nat) (rec : List (BitVec 32)) : JS × FS × Int :=
  if (progAllF s (((j.sec + c) * 256 + e : Nat) : Int) (laidF (j.num + 1#32) rec)).2 = 0 then
    (⟨j.sec, c, e + (rec.length + 4), true, j.num + 1#32, rec, j.dead⟩, (progAllF s (((j.sec + c) * 256 + e : Nat) : Int) (laidF (j.num + 1#32) rec)).1, 0)
  else (j.kill, (progAllF s (((j.sec + c) * 256 + e : Nat) : Int) (laidF (j.num + 1#32) rec)).1, 7)
/-- a record is appended -/
def appendF (j : JS) (s : FS) (rec : List (BitVec 32)) : JS × FS × Int :=
  if j.dead = true ∨ s.off = true then (j.kill, s, 7)
  else if rec.length < 1 ∨ 64 < rec.length ∨ 2147483647 ≤ j.num.toNat then (j, s, 3)
  else if j.clean = true ∧ rec.length + 4 ≤ 256 - j.end_ then jputF j s j.cur j.end_ rec
  else if (eraseF s ((j.sec + (1 - j.cur) : Nat) : Int)).2 = 0 then jputF j (eraseF s ((j.sec + (1 - j.cur) : Nat) : Int)).1 (1 - j.cur) 0 rec
  else (j.kill, (eraseF s ((j.sec + (1 - j.cur) : Nat) : Int)).1, 7)

section
variable {ws vs : List (BitVec 32)} {n : Nat}
theorem open_cur (ws : List (BitVec 32)) (n : Nat) : (jopF ws n).cur ≤ 1 ∧ jopF ws n = mkJ n (jopF ws n).cur (tellF (secF ws (n + (jopF ws n).cur))) ∧
    ((tellF (secF ws (n + (1 - (jopF ws n).cur)))).number.toNat < (jopF ws n).num.toNat ∨ ((jopF ws n).cur = 0 ∧ (tellF (secF ws (n + (1 - (jopF ws n).cur)))).number.toNat ≤ (jopF ws n).num.toNat)) := by
  unfold jopF
  split
  · rename_i h
    exact ⟨Nat.le_refl 1, rfl, .inl h⟩
  · rename_i h
    exact ⟨Nat.zero_le _, rfl, .inr ⟨rfl, Nat.le_of_not_lt h⟩⟩
theorem open_of {c : Nat} {t : Told} (hc : c ≤ 1) (ht : tellF (secF ws (n + c)) = t)
    (ho : (tellF (secF ws (n + (1 - c)))).number.toNat < t.number.toNat ∨ (c = 0 ∧ (tellF (secF ws (n + (1 - c)))).number.toNat ≤ t.number.toNat)) : jopF ws n = mkJ n c t := by
  subst ht
  unfold jopF
  match c, hc with
  | 0, _ =>
    rw [if_neg]
    · rfl
    · rcases ho with h | ⟨_, h⟩
      · exact Nat.not_lt.2 (Nat.le_of_lt h)
      · exact Nat.not_lt.2 h
  | 1, _ =>
    rw [if_pos]
    rcases ho with h | ⟨h, _⟩
    · exact h
    · exact absurd h (by decide)

/-- what an opened journal tells -/
def saysF (ws : List (BitVec 32)) (n : Nat) : BitVec 32 × List (BitVec 32) := ((jopF ws n).num, (jopF ws n).words)
theorem says_of {c : Nat} {t : Told} (hc : c ≤ 1) {q : BitVec 32} {r : List (BitVec 32)} (h1 : (tellF (secF ws (n + c))).number = q) (h2 : (tellF (secF ws (n + c))).words = r)
    (ho : (tellF (secF ws (n + (1 - c)))).number.toNat < q.toNat ∨ (c = 0 ∧ (tellF (secF ws (n + (1 - c)))).number.toNat ≤ q.toNat)) : saysF ws n = (q, r) := by
  unfold saysF
  rw [open_of hc rfl (by rw [h1]; exact ho)]
  show ((tellF (secF ws (n + c))).number, (tellF (secF ws (n + c))).words) = _
  rw [h1, h2]

/-- the words beside two sectors are as they were -/
def Beside (n : Nat) (ws vs : List (BitVec 32)) : Prop := vs.length = ws.length ∧ ∀ i, i < 256 * n ∨ 256 * (n + 2) ≤ i → vs.getD i 0#32 = ws.getD i 0#32
theorem Beside.refl (n : Nat) (ws : List (BitVec 32)) : Beside n ws ws := ⟨rfl, fun _ _ => rfl⟩
theorem Beside.trans {us : List (BitVec 32)} (h : Beside n ws vs) (k : Beside n vs us) : Beside n ws us := ⟨k.1.trans h.1, fun i hi => (k.2 i hi).trans (h.2 i hi)⟩
theorem Beside.put {c e : Nat} {xs : List (BitVec 32)} (hn : 256 * (n + 2) ≤ ws.length) (hc : c ≤ 1) (he : e + xs.length ≤ 256) : Beside n ws (putW ws (256 * (n + c) + e) xs) :=
  ⟨putW_len _ _ _, fun i hi => by rw [putW_getD _ _ _ _ (by omega), if_neg (by omega)]⟩
theorem Beside.fill {c k : Nat} (hc : c ≤ 1) (hk : k ≤ 256) : Beside n ws (fillF ws (256 * (n + c)) k) :=
  ⟨fillF_len _ _ _, fun i hi => by rw [fill_get0, if_neg (by omega)]⟩

/-- words laid down behind a clean sector's records -/
theorem put_tie {s : FS} {c : Nat} {q : BitVec 32} {rec : List (BitVec 32)} (hn : 256 * (n + 2) ≤ s.ws.length) (hs : s.off = false) (hc : c ≤ 1)
    (hcl : (tellF (secF s.ws (n + c))).clean = true) (hq : 1 ≤ q.toNat ∧ q.toNat ≤ 2147483647) (hp : (tellF (secF s.ws (n + c))).number = 0#32 ∨ q = (tellF (secF s.ws (n + c))).number + 1#32)
    (hr : 1 ≤ rec.length ∧ rec.length ≤ 64) (he : (tellF (secF s.ws (n + c))).end_ + (rec.length + 4) ≤ 256) (ho : (tellF (secF s.ws (n + (1 - c)))).number.toNat < q.toNat) (a : Int) (ha : a = (((n + c) * 256 + (tellF (secF s.ws (n + c))).end_ : Nat) : Int)) :
    (∃ t, progAllF s a (laidF q rec) = (t, 0) ∧ jopF t.ws n = mkJ n c ⟨q, rec, (tellF (secF s.ws (n + c))).end_ + (rec.length + 4), true⟩ ∧ t.off = false ∧ t.ops = s.ops + (rec.length + 4 : Nat) ∧ (s.left < 0 → t.left < 0) ∧ Beside n s.ws t.ws) ∨
    (∃ t, progAllF s a (laidF q rec) = (t, 7) ∧ t.off = true ∧ 0 ≤ s.left ∧ (saysF t.ws n = (q, rec) ∨
      ((tellF (secF t.ws (n + c))).number = (tellF (secF s.ws (n + c))).number ∧ (tellF (secF t.ws (n + c))).words = (tellF (secF s.ws (n + c))).words ∧ tellF (secF t.ws (n + (1 - c))) = tellF (secF s.ws (n + (1 - c))))) ∧ Beside n s.ws t.ws) := by
  subst ha
  have hle := laidF_len q rec
  have hsl : (secF s.ws (n + c)).length = 256 := secF_len (by omega)
  have hne : n + (1 - c) ≠ n + c := by omega
  have htl := fun h => @tell_laid (secF s.ws (n + c)) q rec hcl hq hp hr h
  have htt := fun i m h => @tell_torn (secF s.ws (n + c)) q rec i m hcl hr h
  have g := progAll_cases (laidF q rec) s ((n + c) * 256 + (tellF (secF s.ws (n + c))).end_) hs (by rw [hle]; omega)
  rw [hsl] at htl htt
  rw [hle] at g
  have whole : ∀ t : FS, t.ws = putW s.ws ((n + c) * 256 + (tellF (secF s.ws (n + c))).end_) (laidF q rec) → jopF t.ws n = mkJ n c ⟨q, rec, (tellF (secF s.ws (n + c))).end_ + (rec.length + 4), true⟩ ∧ Beside n s.ws t.ws := by
    intro t e
    rw [show (n + c) * 256 + (tellF (secF s.ws (n + c))).end_ = 256 * (n + c) + (tellF (secF s.ws (n + c))).end_ by omega] at e
    refine ⟨open_of hc ?_ (.inl ?_), ?_⟩
    · rw [e, sec_put (by omega) (by rw [hle]; exact he), htl he]
    · rw [e, sec_put_ne (by omega) (by rw [hle]; exact he) hne]
      exact ho
    · rw [e]
      exact Beside.put hn hc (by rw [hle]; exact he)
  rcases g with ⟨t, g1, g2, g3, g4, g5, _⟩ | ⟨t, i, g1, g2, g3, g4, g5, _⟩
  · have k := whole t g2
    exact .inl ⟨t, g1, k.1, g3, g4, g5, k.2⟩
  · refine .inr ⟨t, g1, g4, g5, ?_⟩
    rcases htt i s.mask he g2 with k | ⟨k1, k2⟩
    · rw [k] at g3
      have k := whole t g3
      refine ⟨.inl ?_, k.2⟩
      unfold saysF
      rw [k.1]
      rfl
    · have hyl : (tellF (secF s.ws (n + c))).end_ + ((laidF q rec).take i ++ [(laidF q rec).getD i 0#32 ||| ~~~s.mask]).length ≤ 256 := by
        rw [List.length_append, List.length_take, hle, List.length_singleton]; omega
      rw [show (n + c) * 256 + (tellF (secF s.ws (n + c))).end_ = 256 * (n + c) + (tellF (secF s.ws (n + c))).end_ by omega] at g3
      refine ⟨.inr ⟨?_, ?_, ?_⟩, ?_⟩
      · rw [g3, sec_put (by omega) hyl, k1]
      · rw [g3, sec_put (by omega) hyl, k2]
      · rw [g3, sec_put_ne (by omega) hyl hne]
      · rw [g3]; exact Beside.put hn hc hyl
end

set_option maxHeartbeats 2000000 in
/-- what an Append leaves: done, or torn -/
theorem append_tie {s : FS} {n : Nat} {rec : List (BitVec 32)} (hn : 256 * (n + 2) ≤ s.ws.length) (hs : s.off = false) (hr : 1 ≤ rec.length ∧ rec.length ≤ 64) (hnum : (jopF s.ws n).num.toNat < 2147483647) :
    (∃ t, appendF (jopF s.ws n) s rec = (jopF t.ws n, t, 0) ∧ saysF t.ws n = ((jopF s.ws n).num + 1#32, rec) ∧ t.off = false ∧ (t.ops = s.ops + (rec.length + 4 : Nat) ∨ t.ops = s.ops + (rec.length + 5 : Nat)) ∧ (s.left < 0 → t.left < 0) ∧ Beside n s.ws t.ws) ∨
    (∃ t, appendF (jopF s.ws n) s rec = ((jopF s.ws n).kill, t, 7) ∧ t.off = true ∧ 0 ≤ s.left ∧ (saysF t.ws n = ((jopF s.ws n).num + 1#32, rec) ∨ saysF t.ws n = saysF s.ws n) ∧ Beside n s.ws t.ws) := by
  obtain ⟨hc, hj, ho⟩ := open_cur s.ws n
  have hok := tell_ok (secF s.ws (n + (jopF s.ws n).cur))
  have hq : 1 ≤ ((jopF s.ws n).num + 1#32).toNat ∧ ((jopF s.ws n).num + 1#32).toNat ≤ 2147483647 ∧ ((jopF s.ws n).num + 1#32).toNat = (jopF s.ws n).num.toNat + 1 := by
    rw [BitVec.toNat_add]; simp; omega
  have eN : (tellF (secF s.ws (n + (jopF s.ws n).cur))).number = (jopF s.ws n).num := (congrArg JS.num hj).symm
  have eW : (tellF (secF s.ws (n + (jopF s.ws n).cur))).words = (jopF s.ws n).words := (congrArg JS.words hj).symm
  have eE : (tellF (secF s.ws (n + (jopF s.ws n).cur))).end_ = (jopF s.ws n).end_ := (congrArg JS.end_ hj).symm
  have eC : (tellF (secF s.ws (n + (jopF s.ws n).cur))).clean = (jopF s.ws n).clean := (congrArg JS.clean hj).symm
  have eS : (jopF s.ws n).sec = n := congrArg JS.sec hj
  have eD : (jopF s.ws n).dead = false := congrArg JS.dead hj
  have eSay : saysF s.ws n = ((jopF s.ws n).num, (jopF s.ws n).words) := rfl
  have mk : ∀ c' e', JS.mk n c' e' true ((jopF s.ws n).num + 1#32) rec (jopF s.ws n).dead = mkJ n c' ⟨(jopF s.ws n).num + 1#32, rec, e', true⟩ := by
    intro c' e'
    rw [eD]; rfl
  clear hj
  generalize jopF s.ws n = j at *
  unfold appendF
  rw [if_neg (by rw [eD, hs]; simp), if_neg (by omega)]
  by_cases hroom : j.clean = true ∧ rec.length + 4 ≤ 256 - j.end_
  · rw [if_pos hroom]
    have g := put_tie (q := j.num + 1#32) (rec := rec) hn hs hc (by rw [eC]; exact hroom.1) ⟨hq.1, hq.2.1⟩ (.inr (by rw [eN])) hr (by rw [eE]; omega) (by omega) _ rfl
    unfold jputF
    rw [eE] at g
    rw [eS]
    rcases g with ⟨t, g1, g2, g3, g4, g5, g6⟩ | ⟨t, g1, g2, g3, g4, g5⟩
    · rw [g1, if_pos rfl, mk]
      refine .inl ⟨t, by rw [g2], ?_, g3, .inl g4, g5, g6⟩
      unfold saysF
      rw [g2]; rfl
    · rw [g1, if_neg (show ¬ ((7 : Int) = 0) by decide)]
      refine .inr ⟨t, rfl, g2, g3, ?_, g5⟩
      rcases g4 with g4 | ⟨k1, k2, k3⟩
      · exact .inl g4
      · right
        rw [eSay]
        refine says_of (t := ⟨0, [], 0, true⟩) hc (k1.trans eN) (k2.trans eW) ?_
        rw [k3]; exact ho
  · rw [if_neg hroom]
    have hne : n + j.cur ≠ n + (1 - j.cur) := by omega
    have hq256 : s.ws.length / 256 ≥ n + 2 := by omega
    -- an erased beginning of the other sector
    have part : ∀ k, k ≤ 256 → saysF (fillF s.ws (256 * (n + (1 - j.cur))) k) n = saysF s.ws n := by
      intro k hk
      rw [eSay]
      refine says_of (t := ⟨0, [], 0, true⟩) hc (by rw [sec_fill_ne hk hne, eN]) (by rw [sec_fill_ne hk hne, eW]) ?_
      by_cases hk0 : k = 0
      · subst hk0; rw [fillF_zero]; exact ho
      · have e0 : (tellF (secF (fillF s.ws (256 * (n + (1 - j.cur))) k) (n + (1 - j.cur)))).number = 0#32 := by
          show (goF _ 0 0#32 []).1 = _
          rw [tell_empty (.inr (by rw [sec_fill (by omega) hk 0 (by decide), if_pos (by omega)]))]
        rw [e0]
        rcases ho with h | ⟨h, _⟩
        · exact .inl (Nat.lt_of_le_of_lt (Nat.zero_le _) h)
        · exact .inr ⟨h, Nat.zero_le _⟩
    by_cases hz : s.left = 0
    · have e : eraseF s ((j.sec + (1 - j.cur) : Nat) : Int) = (s.tore (fillF s.ws (256 * (n + (1 - j.cur))) (s.mask.toNat % 257)), 7) := by
        unfold eraseF
        rw [hs, if_neg (by simp), if_neg (by rw [eS]; omega), if_pos hz, Int.toNat_natCast, eS]
      rw [e, if_neg (show ¬ ((7 : Int) = 0) by decide)]
      exact .inr ⟨s.tore (fillF s.ws (256 * (n + (1 - j.cur))) (s.mask.toNat % 257)), rfl, rfl, by omega, .inr (by rw [tore_ws]; exact part _ (by omega)), by rw [tore_ws]; exact Beside.fill (by omega) (by omega)⟩
    · have e : eraseF s ((j.sec + (1 - j.cur) : Nat) : Int) = (s.did (fillF s.ws (256 * (n + (1 - j.cur))) 256), 0) := by
        unfold eraseF
        rw [hs, if_neg (by simp), if_neg (by rw [eS]; omega), if_neg hz, Int.toNat_natCast, eS]
      rw [e, if_pos rfl]
      have hw : (s.did (fillF s.ws (256 * (n + (1 - j.cur))) 256)).ws = fillF s.ws (256 * (n + (1 - j.cur))) 256 := did_ws _ _
      have hof : (s.did (fillF s.ws (256 * (n + (1 - j.cur))) 256)).off = false := (did_off _ _).trans hs
      have hop : (s.did (fillF s.ws (256 * (n + (1 - j.cur))) 256)).ops = s.ops + 1 := did_ops _ _
      have hlf : (s.did (fillF s.ws (256 * (n + (1 - j.cur))) 256)).left = if 0 < s.left then s.left - 1 else s.left := did_lef _ _
      have hp := part 256 (Nat.le_refl _)
      have hb : Beside n s.ws (fillF s.ws (256 * (n + (1 - j.cur))) 256) := Beside.fill (by omega) (by omega)
      have ht : tellF (secF (fillF s.ws (256 * (n + (1 - j.cur))) 256) (n + (1 - j.cur))) = ⟨0#32, [], 0, true⟩ := tell_fill (by omega)
      have ht2 : tellF (secF (fillF s.ws (256 * (n + (1 - j.cur))) 256) (n + j.cur)) = tellF (secF s.ws (n + j.cur)) := by rw [sec_fill_ne (Nat.le_refl _) hne]
      have hl2 : (fillF s.ws (256 * (n + (1 - j.cur))) 256).length = s.ws.length := fillF_len _ _ _
      generalize s.did (fillF s.ws (256 * (n + (1 - j.cur))) 256) = s1 at *
      rw [← hw] at hp hb ht ht2 hl2
      clear hw
      have ecc : 1 - (1 - j.cur) = j.cur := by omega
      have g := put_tie (s := s1) (c := 1 - j.cur) (q := j.num + 1#32) (rec := rec) (n := n) (by omega) hof (by omega) (by rw [ht]) ⟨hq.1, hq.2.1⟩ (.inl (by rw [ht])) hr (by rw [ht]; show 0 + _ ≤ _; omega) (by rw [ecc, ht2, eN]; omega) _ rfl
      rw [ht, ecc] at g
      unfold jputF
      rw [eS]
      rcases g with ⟨t, g1, g2, g3, g4, g5, g6⟩ | ⟨t, g1, g2, g3, g4, g5⟩
      · rw [g1, if_pos rfl, mk]
        refine .inl ⟨t, by rw [g2], ?_, g3, .inr (by rw [g4, hop]; omega), fun h => g5 (by rw [hlf, if_neg (by omega)]; exact h), hb.trans g6⟩
        unfold saysF
        rw [g2]; rfl
      · rw [g1, if_neg (show ¬ ((7 : Int) = 0) by decide)]
        refine .inr ⟨t, rfl, g2, ?_, ?_, hb.trans g5⟩
        · rw [hlf] at g3
          split at g3 <;> omega
        · rcases g4 with g4 | ⟨k1, k2, k3⟩
          · exact .inl g4
          · right
            rw [eSay]
            refine says_of (t := ⟨0, [], 0, true⟩) hc (by rw [k3, ht2, eN]) (by rw [k3, ht2, eW]) ?_
            rw [k1]
            rcases ho with h | ⟨h, _⟩
            · exact .inl (Nat.lt_of_le_of_lt (Nat.zero_le _) h)
            · exact .inr ⟨h, Nat.zero_le _⟩
end Go.Proofs.Ytgipackjnncabaa

/- Walks of layer 7, first part: a record's words; what a sector tells. -/
set_option linter.unusedVariables false
namespace Go.Proofs.Ytgipackjnncabaa
open Go.Vc Go.RowKit

theorem own_lit {w : World} (xs : List (BitVec 32)) (hx : xs.length ≤ 16777216) : Own 42 u32v w.heap.size (w.alloc (.cells (xs.map u32v).toArray 42)) (some ⟨w.heap.size, 0, none⟩) xs.length xs := by
  refine ⟨by simp, .inr ⟨w.heap.size, xs.length, _, rfl, Nat.le_refl _, heap_alloc_new w _, Nat.le_refl _, ?_, by simp, by simp [List.take_of_length_le]⟩⟩
  exact Nat.le_trans hx (by decide)

theorem run_two (w : World) (x y : BitVec 32) : ∃ w', (Instr.buildSlice 37 2 #[(0, u32v x), (1, u32v y)]).run Try.prog w = .ok (.slice (some ⟨w.heap.size, 0, none⟩) 2 2) w' ∧ Own 42 u32v w.heap.size w' (some ⟨w.heap.size, 0, none⟩) 2 [x, y] ∧ Ext w w' := by
  have g := run_buildN (P := Try.prog) (t := 37) (e := 42) e32.toElem [u32v x, u32v y] (by simp [u32v, Value.oneCell']) (by simp) w
  exact ⟨_, g, own_lit (w := w) [x, y] (by simp), Ext.new _ _⟩

theorem run_app {ty : TypeId} {B d c : Nat} {w : World} {a b : Option Addr} {xs ys : List (BitVec 32)} (h : Own 42 u32v B w a c xs) (hy : Sl u32v w b ys) (hlen : xs.length + ys.length ≤ 4294967296) (hB : B ≤ w.heap.size) :
    ∃ a' c' w', (Builtin.append_ #[37, 37] ty #[.slice a xs.length c, .slice b ys.length d]).run Try.prog w = .ok (.slice a' (xs ++ ys).length c') w' ∧ Own 42 u32v B w' a' c' (xs ++ ys) ∧ Gr w w' (blockOf a) := by
  have g := h.append (ty := ty) (d := d) e32.toElem (fun _ => rfl) hy hlen hB
  obtain ⟨a', c', w', h1, h2, h3, _⟩ := g
  exact ⟨a', c', w', h1, h2, h3⟩

def LaidPost (r : List (BitVec 32)) (w : World) (v : Value) (w' : World) : Prop :=
  ∃ a' c', v = .slice a' r.length c' ∧ Own 42 u32v w.heap.size w' a' c' r ∧ Ext w w'

set_option maxHeartbeats 1000000 in
theorem laid_calls {w : World} {a : Option Addr} {c : Nat} (n : BitVec 32) {rec : List (BitVec 32)} (h : Sl u32v w a rec) (hl : rec.length ≤ 65536) :
    Calls Try.prog 166 #[.int .u32 n.toNat, .slice a rec.length c] w (Ret (LaidPost (laidF n rec) w)) := by
  have elen : (laidF n rec).length = ((n :: BitVec.ofNat 32 rec.length :: rec) ++ [sumF (bytesF (n :: BitVec.ofNat 32 rec.length :: rec)), 0#32]).length := rfl
  refine calls_of_vc lok Try.func166 ?_ rfl
  conv => whnf
  intro z hz
  have hz2 : z = ((BitVec.ofNat 32 rec.length).toNat : Int) := by rw [hz, wu32, BitVec.toNat_ofNat]; omega
  clear hz
  subst hz2
  conv => whnf
  have g1 := run_two w n (BitVec.ofNat 32 rec.length)
  obtain ⟨w1, hr1, ho1, x1⟩ := g1
  refine ⟨_, _, hr1, ?_⟩
  conv => whnf
  have z1 := x1.size
  have g2 := run_app (ty := 37) (d := c) ho1 (h.ext x1) (by simp; omega) z1
  obtain ⟨a2, c2, w2, hr2, ho2, hg2⟩ := g2
  refine ⟨_, _, hr2, ?_⟩
  have ho2 : Own 42 u32v w.heap.size w2 a2 c2 (n :: BitVec.ofNat 32 rec.length :: rec) := ho2
  have x2 : Ext w w2 := hg2.extOf x1 (fun g hg => by cases hg; exact Nat.le_refl _)
  have el2 : ([n, BitVec.ofNat 32 rec.length] ++ rec).length = (n :: BitVec.ofNat 32 rec.length :: rec).length := rfl
  rw [el2]
  have hll : (n :: BitVec.ofNat 32 rec.length :: rec).length = rec.length + 2 := rfl
  unfold laidF at elen ⊢
  clear hr1 hr2 el2
  generalize (n :: BitVec.ofNat 32 rec.length :: rec) = hd at *
  conv => whnf
  refine Calls.ret (bytes_calls ho2.sl (by omega)) ?_
  rintro _ w3 ⟨a3, c3, rfl, ho3, x3⟩
  conv => whnf
  refine Calls.ret (sum_calls ho3.sl (by rw [bytesF_len]; omega)) ?_
  rintro _ w4 ⟨rfl, x4⟩
  conv => whnf
  have g5 := run_two w4 (sumF (bytesF hd)) 0#32
  obtain ⟨w5, hr5, ho5, x5⟩ := g5
  refine ⟨_, _, hr5, ?_⟩
  conv => whnf
  have x25 := (x3.trans x4).trans x5
  have z2 := x2.size
  have z25 := x25.size
  have g6 := run_app (ty := 37) (d := 2) (ho2.ext x25) ho5.sl (by simp; omega) (by omega)
  obtain ⟨a6, c6, w6, hr6, ho6, hg6⟩ := g6
  refine ⟨_, _, hr6, ?_⟩
  exact ⟨a6, c6, rfl, ho6, hg6.extOf (x2.trans x25) (fun g hg => (ho2.ge g hg).1)⟩

set_option maxHeartbeats 1000000 in
theorem rlaid_calls {w : World} {a : Option Addr} {c : Nat} (n : BitVec 32) {rec : List (BitVec 32)} (h : Sl u32v w a rec) (hl : rec.length ≤ 65536) :
    Calls Try.prog 170 #[.int .u32 n.toNat, .slice a rec.length c] w (Ret (LaidPost (laidF n rec) w)) := by
  refine calls_of_vc lok Try.func170 ?_ rfl
  conv => whnf
  intro z hz
  have hz9 : z = ((BitVec.ofNat 32 rec.length).toNat : Int) := by rw [hz, wu32, BitVec.toNat_ofNat]; omega
  clear hz
  subst hz9
  conv => whnf
  have g1 := run_two w n (BitVec.ofNat 32 rec.length)
  obtain ⟨w1, hr1, ho1, x1⟩ := g1
  refine ⟨_, _, hr1, ?_⟩
  conv => whnf
  have z1 := x1.size
  have g2 := run_app (ty := 37) (d := c) ho1 (h.ext x1) (by simp; omega) z1
  obtain ⟨a2, c2, w2, hr2, ho2, hg2⟩ := g2
  refine ⟨_, _, hr2, ?_⟩
  have ho2 : Own 42 u32v w.heap.size w2 a2 c2 (n :: BitVec.ofNat 32 rec.length :: rec) := ho2
  have x2 : Ext w w2 := hg2.extOf x1 (fun g hg => by cases hg; exact Nat.le_refl _)
  have el2 : ([n, BitVec.ofNat 32 rec.length] ++ rec).length = (n :: BitVec.ofNat 32 rec.length :: rec).length := rfl
  rw [el2]
  have hll : (n :: BitVec.ofNat 32 rec.length :: rec).length = rec.length + 2 := rfl
  unfold laidF
  clear hr1 hr2 el2
  generalize (n :: BitVec.ofNat 32 rec.length :: rec) = hd at *
  conv => whnf
  refine Calls.ret (rbytes_calls ho2.sl (by omega)) ?_
  rintro _ w3 ⟨a3, c3, rfl, ho3, x3⟩
  conv => whnf
  refine Calls.ret (rsum_calls ho3.sl (by rw [bytesF_len]; omega)) ?_
  rintro _ w4 ⟨rfl, hw4⟩
  conv => whnf
  subst hw4
  have g5 := run_two w4 (sumF (bytesF hd)) 0#32
  obtain ⟨w5, hr5, ho5, x5⟩ := g5
  refine ⟨_, _, hr5, ?_⟩
  conv => whnf
  have x25 := x3.trans x5
  have z2 := x2.size
  have z25 := x25.size
  have g6 := run_app (ty := 37) (d := 2) (ho2.ext x25) ho5.sl (by simp; omega) (by omega)
  obtain ⟨a6, c6, w6, hr6, ho6, hg6⟩ := g6
  refine ⟨_, _, hr6, ?_⟩
  exact ⟨a6, c6, rfl, ho6, hg6.extOf (x2.trans x25) (fun g hg => (ho2.ge g hg).1)⟩

theorem wi64k {n : Nat} (h : n < 9223372036854775808) : IntKind.i64.wrap (n : Int) = (n : Int) := wi64 (by omega)
/-- a word is read -/
theorem sl_rd {w : World} {a : Option Addr} {ws : List (BitVec 32)} (h : Sl u32v w a ws) (i : Int) (n k : Nat) (e : i = (n : Int) + (k : Int)) (hn : n + k < ws.length) :
    ∃ b o, a = some ⟨b, o, none⟩ ∧ (0 ≤ i ∧ i < (ws.length : Int)) ∧ w.cell? ⟨b, o + i.toNat, none⟩ = some (.int .u32 (((ws.drop n).getD k 0#32).toNat : Int)) := by
  have g := h.at i (by omega) (by omega)
  obtain ⟨b, o, ha, hc⟩ := g
  refine ⟨b, o, ha, ⟨by omega, by omega⟩, ?_⟩
  rw [hc, drop_get0]
  have : i.toNat = n + k := by omega
  rw [this]
  rfl

/-- a word is read -/
theorem sl_get {w : World} {a : Option Addr} {ws : List (BitVec 32)} (h : Sl u32v w a ws) (i : Int) (k : Nat) (e : i = (k : Int)) (hn : k < ws.length) :
    ∃ b o, a = some ⟨b, o, none⟩ ∧ (0 ≤ i ∧ i < (ws.length : Int)) ∧ w.cell? ⟨b, o + i.toNat, none⟩ = some (.int .u32 ((ws.getD k 0#32).toNat : Int)) := by
  have g := h.at i (by omega) (by omega)
  obtain ⟨b, o, ha, hc⟩ := g
  refine ⟨b, o, ha, ⟨by omega, by omega⟩, ?_⟩
  rw [hc, show i.toNat = k by omega]
  rfl

/-- a slice of a slice -/
def SubSl (a : Option Addr) (ws : List (BitVec 32)) (b : Option Addr) (xs : List (BitVec 32)) : Prop := ∀ w0 : World, Sl u32v w0 a ws → Sl u32v w0 b xs
/-- the part of a sector where a record stands -/
def OnePost (a0 : Option Addr) (ws : List (BitVec 32)) (at_ : Nat) (w : World) (v : Value) (w' : World) : Prop :=
  ((oneB (ws.drop at_) ∧ ∃ a c, v = .tuple #[.int .u32 (numB (ws.drop at_)).toNat, .slice a (recB (ws.drop at_)).length c] ∧ SubSl a0 ws a (recB (ws.drop at_))) ∨
    (¬ oneB (ws.drop at_) ∧ v = .tuple #[.int .u32 0, .slice none 0 0])) ∧ Ext w w'

theorem recB_len {h : List (BitVec 32)} (hn : sizeB h + 4 ≤ h.length) : (recB h).length = sizeB h := by
  unfold recB
  rw [List.length_take, List.length_drop]; omega

set_option maxHeartbeats 1000000 in
theorem one_calls {w : World} {a : Option Addr} {c : Nat} {ws : List (BitVec 32)} (h : Sl u32v w a ws) (hl : ws.length ≤ 1048576) (hc : ws.length ≤ c) (hcm : c ≤ 9223372036854775807) (at_ : Nat) (hat : at_ ≤ ws.length) :
    Calls Try.prog 185 #[.slice a ws.length c, .int .i64 at_] w (Ret (OnePost a ws at_ w)) := by
  have hdl : (ws.drop at_).length = ws.length - at_ := List.length_drop
  refine calls_of_vc lok Try.func185 ?_ rfl
  conv => whnf
  refine ⟨by omega, ?_⟩
  conv => whnf
  refine vcCond_split lok rfl (fun h1 => ?_) (fun h1 => ?_)
  · have h1 := dt h1
    conv => whnf
    exact ⟨.inr ⟨fun q => by have := q.1.1; omega, rfl⟩, Ext.refl _⟩
  have h1 := df h1
  conv => whnf
  have g20 := sl_rd (h) ((at_ : Int)) (at_) (0) (by omega) (by omega)
  obtain ⟨p20, o20, ha20, hb20, hcell20⟩ := g20
  refine ⟨p20, o20, ha20, hb20, ?_⟩
  conv => whnf
  refine ⟨_, hcell20, ?_⟩
  conv => whnf
  refine ⟨by omega, ?_⟩
  conv => whnf
  have g22 := sl_rd (h) ((at_ : Int) + 1) (at_) (1) (by omega) (by omega)
  obtain ⟨p22, o22, ha22, hb22, hcell22⟩ := g22
  refine ⟨p22, o22, ha22, hb22, ?_⟩
  conv => whnf
  refine ⟨_, hcell22, ?_⟩
  conv => whnf
  have hlt := ((ws.drop at_).getD 1 0#32).isLt
  intro z hz
  have hz23 : z = (sizeB (ws.drop at_) : Int) := by rw [hz]; exact wi64k (by omega)
  clear hz
  subst hz23
  conv => whnf
  have eN : numB (ws.drop at_) = (ws.drop at_).getD 0 0#32 := rfl
  have hsz : sizeB (ws.drop at_) < 4294967296 := hlt
  have eI := @laid_iff (ws.drop at_)
  have ePre : preB (ws.drop at_) ↔ (5 ≤ (ws.drop at_).length ∧ (1 ≤ (numB (ws.drop at_)).toNat ∧ (numB (ws.drop at_)).toNat ≤ 2147483647) ∧ 1 ≤ sizeB (ws.drop at_) ∧ sizeB (ws.drop at_) ≤ 64 ∧ sizeB (ws.drop at_) + 4 ≤ (ws.drop at_).length) := Iff.rfl
  rw [← eN]
  refine vcReg_meet lok (fun β : Bool => [(46, .bool β)]) (fun β w' => w' = w ∧ β = !decide (preB (ws.drop at_))) [46] (fun _ => rfl) rfl ?_ ?_
  · generalize sizeB (ws.drop at_) = n at *
    generalize numB (ws.drop at_) = q at *
    conv => whnf
    refine bcase (fun k1 => ?_) (fun k1 => ?_)
    · have k1 := dt k1
      conv => whnf
      exact ⟨_, ⟨rfl, trivial⟩, rfl, by rw [eq_comm, Bool.not_eq_true', decide_eq_false_iff_not, ePre]; omega⟩
    have k1 := df k1
    conv => whnf
    refine bcase (fun k2 => ?_) (fun k2 => ?_)
    · have k2 := dt k2
      conv => whnf
      exact ⟨_, ⟨rfl, trivial⟩, rfl, by rw [eq_comm, Bool.not_eq_true', decide_eq_false_iff_not, ePre]; omega⟩
    have k2 := df k2
    conv => whnf
    refine bcase (fun k3 => ?_) (fun k3 => ?_)
    · have k3 := dt k3
      conv => whnf
      exact ⟨_, ⟨rfl, trivial⟩, rfl, by rw [eq_comm, Bool.not_eq_true', decide_eq_false_iff_not, ePre]; omega⟩
    have k3 := df k3
    conv => whnf
    refine bcase (fun k4 => ?_) (fun k4 => ?_)
    · have k4 := dt k4
      conv => whnf
      exact ⟨_, ⟨rfl, trivial⟩, rfl, by rw [eq_comm, Bool.not_eq_true', decide_eq_false_iff_not, ePre]; omega⟩
    have k4 := df k4
    conv => whnf
    refine ⟨by omega, ?_⟩
    conv => whnf
    refine ⟨by omega, ?_⟩
    conv => whnf
    refine ⟨_, ⟨rfl, trivial⟩, rfl, ?_⟩
    by_cases k5 : n + 4 ≤ (ws.drop at_).length
    · rw [decide_eq_false (by omega), decide_eq_true (ePre.2 (by omega))]; rfl
    · rw [decide_eq_true (by omega), decide_eq_false (fun q => k5 (ePre.1 q).2.2.2.2)]; rfl
  rintro β w1 ⟨hw1, hβ⟩
  subst hw1
  conv => whnf
  refine vcCond_split lok rfl (fun h2 => ?_) (fun h2 => ?_)
  · rw [h2] at hβ
    have hno : ¬ preB (ws.drop at_) := by
      intro q
      rw [decide_eq_true q] at hβ
      cases hβ
    conv => whnf
    exact ⟨.inr ⟨fun q => hno q.1, rfl⟩, Ext.refl _⟩
  rw [h2] at hβ
  have hpre : preB (ws.drop at_) := by
    by_cases q : preB (ws.drop at_)
    · exact q
    · rw [decide_eq_false q] at hβ; cases hβ
  clear hβ
  have hp := ePre.1 hpre
  have eRec : recB (ws.drop at_) = (ws.drop (at_ + 2)).take (sizeB (ws.drop at_)) := by unfold recB; rw [List.drop_drop]
  have eRl := recB_len hp.2.2.2.2
  have eOne : oneB (ws.drop at_) ↔ (ws.drop at_).take (sizeB (ws.drop at_) + 4) = laidF (numB (ws.drop at_)) (recB (ws.drop at_)) := ⟨fun q => q.2, fun q => ⟨hpre, q⟩⟩
  have eTl : ((ws.drop at_).take (sizeB (ws.drop at_) + 4)).length = sizeB (ws.drop at_) + 4 := by rw [List.length_take]; omega
  have hsl := Sl.mid h (at_ + 2) (at_ + 2 + sizeB (ws.drop at_)) c (by omega) (by omega) hc
  rw [show at_ + 2 + sizeB (ws.drop at_) - (at_ + 2) = sizeB (ws.drop at_) by omega, ← eRec] at hsl
  have hsl2 := Sl.mid h at_ (at_ + (sizeB (ws.drop at_) + 4)) c (by omega) (by omega) hc
  rw [show at_ + (sizeB (ws.drop at_) + 4) - at_ = sizeB (ws.drop at_) + 4 by omega] at hsl2
  generalize hq : sizeB (ws.drop at_) = n at *
  generalize hq0 : numB (ws.drop at_) = q at *
  generalize hr0 : recB (ws.drop at_) = rec at *
  generalize (ws.drop at_).take (n + 4) = tk at *
  conv => whnf
  refine ⟨by omega, ?_⟩
  conv => whnf
  refine ⟨by omega, ?_⟩
  conv => whnf
  refine ⟨by omega, ?_⟩
  conv => whnf
  refine ⟨⟨by omega, by omega, by omega⟩, ?_⟩
  intro b hb
  have e1 : ((at_ : Int) + 2).toNat = at_ + 2 := by omega
  have e2 : ((at_ : Int) + 2 + (n : Int)).toNat - ((at_ : Int) + 2).toNat = rec.length := by omega
  rw [e1] at hb
  rw [← hb] at hsl
  rw [e2]
  clear hb
  conv => whnf
  refine Calls.ret (rlaid_calls q hsl (by omega)) ?_
  rintro _ w2 ⟨a2, c2, rfl, ho2, x2⟩
  conv => whnf
  refine ⟨by omega, ?_⟩
  conv => whnf
  refine ⟨by omega, ?_⟩
  conv => whnf
  refine ⟨⟨by omega, by omega, by omega⟩, ?_⟩
  intro b3 hb3
  have e3 : ((at_ : Int) + (n : Int) + 4).toNat - (at_ : Int).toNat = tk.length := by omega
  rw [e3]
  rw [Int.toNat_natCast] at hb3
  rw [← hb3] at hsl2
  clear hb3
  conv => whnf
  refine Calls.ret (same_calls ho2.sl (hsl2.ext x2) (by rw [laidF_len]; omega)) ?_
  rintro _ w3 ⟨rfl, x3⟩
  conv => whnf
  have x13 := x2.trans x3
  by_cases hone : oneB (ws.drop at_)
  · have e := eOne.1 hone
    refine vcCond_false lok ((by rw [decide_eq_true e.symm]; rfl)) ?_
    conv => whnf
    refine vcDraw_go lok mixed (fun _ => True) [] [0, 1, 2, 3, 4, 5, 6, 7, 8, 9, 10] (by kernel_rfl) (fun w4 hw4 => ⟨trivial, ?_⟩)
    have x4 : Ext w3 w4 := hw4 ▸ Ext.drew w3
    have x14 := x13.trans x4
    clear hw4
    conv => whnf
    refine ⟨by omega, ?_⟩
    conv => whnf
    refine ⟨by omega, ?_⟩
    conv => whnf
    refine ⟨by omega, ?_⟩
    conv => whnf
    refine ⟨⟨by omega, by omega, by omega⟩, ?_⟩
    intro b4 hb4
    have e5 : ((at_ : Int) + 2 + (n : Int)).toNat - ((at_ : Int) + 2).toNat = rec.length := by omega
    have hsl4 : SubSl a ws b4 rec := fun w0 h0 => by
      have g := Sl.mid h0 (at_ + 2) (at_ + 2 + n) c (by omega) (by omega) hc
      rw [show at_ + 2 + n - (at_ + 2) = n by omega, ← eRec] at g
      rw [hb4, e1]
      exact g
    rw [e5]
    clear hb4
    exact ⟨.inl ⟨hone, b4, _, by rw [hq0, hr0], by rw [hr0]; exact hsl4⟩, x14⟩
  · refine vcCond_true lok ((by rw [decide_eq_false (fun e => hone (eOne.2 e.symm))]; rfl)) ?_
    conv => whnf
    exact ⟨.inr ⟨hone, rfl⟩, x13⟩

/-- a sector's words (the reference) -/
theorem secs_calls {B : Nat} {w : World} {g gw c : Nat} {s : FS} (h : FlAt 81 B w g gw c s) (hl : s.ws.length ≤ 1048576) (n : Nat) (hn : 256 * (n + 1) ≤ s.ws.length) :
    Calls Try.prog 169 #[.pointer (some ⟨g, 0, none⟩), .int .i64 n] w (Ret fun v w' => ∃ a, v = .slice a (secF s.ws n).length (c - 256 * n) ∧ SubSl (some ⟨gw, 0, none⟩) s.ws a (secF s.ws n) ∧ w' = w) := by
  have hc := h.own.le
  have el : (secF s.ws n).length = 256 := by unfold secF; rw [List.length_take, List.length_drop]; omega
  refine calls_of_vc lok Try.func169 ?_ rfl
  conv => whnf
  refine ⟨_, h.blk.cell0 rfl, ?_⟩
  conv => whnf
  refine ⟨by omega, ?_⟩
  conv => whnf
  refine ⟨by omega, ?_⟩
  conv => whnf
  refine ⟨by omega, ?_⟩
  conv => whnf
  refine ⟨⟨by omega, by omega, by omega⟩, ?_⟩
  intro a ha
  have e1 : ((n : Int) * 256).toNat = 256 * n := by omega
  have e2 : ((n : Int) * 256 + 256).toNat - ((n : Int) * 256).toNat = (secF s.ws n).length := by omega
  rw [e1] at ha
  rw [e2, e1]
  refine ⟨a, rfl, fun w0 h0 => ?_, rfl⟩
  have hsl := Sl.mid h0 (256 * n) (256 * (n + 1)) c (by omega) (by omega) hc.1
  rw [← ha, show 256 * (n + 1) - 256 * n = 256 by omega] at hsl
  exact hsl

theorem add1 (x : BitVec 32) (h : x.toNat ≤ 2147483647) : ((x + 1#32).toNat : Int) = (x.toNat : Int) + 1 := by
  rw [BitVec.toNat_add]
  simp
  omega
theorem num_zero {x : BitVec 32} : (x.toNat : Int) = 0 ↔ x = 0#32 := int_eq (x := x) (y := 0#32)

theorem clean_step (ws : List (BitVec 32)) (i j : Nat) (hi : i ≤ j) (hj : j < ws.length) : cleanF ((ws.drop i).take (j + 1 - i)) = (cleanF ((ws.drop i).take (j - i)) && decide (ws.getD j 0#32 = ones)) := by
  unfold cleanF
  rw [show j + 1 - i = (j - i) + 1 by omega, List.take_add_one, List.getElem?_drop, show i + (j - i) = j by omega, List.getElem?_eq_getElem hj]
  simp [List.getD, List.getElem?_eq_getElem hj]

/-- what Walk tells -/
def WalkPost (a0 : Option Addr) (ws : List (BitVec 32)) (w : World) (v : Value) (w' : World) : Prop :=
  ∃ a c, v = .tuple #[.int .u32 (tellF ws).number.toNat, .slice a (tellF ws).words.length c, .int .i64 (tellF ws).end_, .bool (tellF ws).clean] ∧ SubSl a0 ws a (tellF ws).words ∧ Ext w w'

theorem ones_eq {x : BitVec 32} : (x.toNat : Int) = 4294967295 ↔ x = ones := int_eq (x := x) (y := ones)

set_option maxHeartbeats 1000000 in
theorem rwalk_calls {w : World} {a : Option Addr} {c : Nat} {ws : List (BitVec 32)} (h : Sl u32v w a ws) (hl : ws.length ≤ 65536) (hc : ws.length ≤ c) (hcm : c ≤ 9223372036854775807) :
    Calls Try.prog 168 #[.slice a ws.length c] w (Ret (WalkPost a ws w)) := by
  refine calls_of_vc lok Try.func168 ?_ rfl
  conv => whnf
  refine vcLoop_inv lok (σ := Nat × BitVec 32 × List (BitVec 32) × Option Addr × Nat)
    (fun ⟨at_, p, rec, ra, rc⟩ => [(8, .int .i64 at_), (6, .int .u32 p.toNat), (7, .slice ra rec.length rc), (0, .slice a ws.length c)])
    (fun ⟨at_, p, rec, ra, rc⟩ w1 => at_ ≤ ws.length ∧ p.toNat ≤ 2147483647 ∧ SubSl a ws ra rec ∧ goF ws 0 0#32 [] = goF ws at_ p rec ∧ Ext w w1) (fun t => ws.length - t.1)
    (0, 0#32, [], none, 0) ⟨rfl, rfl, rfl, rfl, trivial⟩ ⟨Nat.zero_le _, by decide, fun _ _ => .inl rfl, rfl, Ext.refl _⟩ ?_
  rintro ⟨at_, p, rec, ra, rc⟩ w1 ⟨hat, hp, hrec, hgo, x1⟩
  conv => whnf
  refine Calls.ret (one_calls (h.ext x1) (by omega) hc hcm at_ hat) ?_
  rintro v w2 ⟨hone, x2⟩
  conv => whnf
  have x02 := x1.trans x2
  have hone2 : ∃ q a2 r c2, v = .tuple #[.int .u32 (q : BitVec 32).toNat, .slice a2 r.length c2] ∧ ((oneB (ws.drop at_) ∧ q = numB (ws.drop at_) ∧ r = recB (ws.drop at_) ∧ SubSl a ws a2 r) ∨ (¬ oneB (ws.drop at_) ∧ q = 0#32)) := by
    rcases hone with ⟨h1, a2, c2, e, h2⟩ | ⟨h1, e⟩
    · exact ⟨_, a2, _, c2, e, .inl ⟨h1, rfl, rfl, h2⟩⟩
    · exact ⟨0#32, none, [], 0, e, .inr ⟨h1, rfl⟩⟩
  clear hone
  obtain ⟨q, a2, r, c2, rfl, hone⟩ := hone2
  conv => whnf
  refine vcReg_meet lok (fun β : Bool => [(30, .bool β)]) (fun β w' => w' = w2 ∧ β = !decide (goodB (ws.drop at_) p)) [30] (fun _ => rfl) rfl ?_ ?_
  · have hq0 : (q = 0#32) ↔ ¬ oneB (ws.drop at_) := by
      rcases hone with ⟨h1, h2, _⟩ | ⟨h1, h2⟩
      · refine ⟨fun e => ?_, fun e => absurd h1 e⟩
        have := h1.1.2.1.1
        rw [← h2, e] at this
        exact absurd this (by decide)
      · exact ⟨fun _ => h1, fun _ => h2⟩
    conv => whnf
    refine bcase (fun k1 => ?_) (fun k1 => ?_)
    · have k1 := dt k1
      conv => whnf
      exact ⟨_, ⟨rfl, trivial⟩, rfl, by rw [decide_eq_false (fun g => (hq0.1 (num_zero.1 k1)) g.1)]; rfl⟩
    have k1 := df k1
    have hyes : oneB (ws.drop at_) := Decidable.byContradiction fun g => k1 (num_zero.2 (hq0.2 g))
    have hqn : q = numB (ws.drop at_) := by
      rcases hone with ⟨h1, h2, _⟩ | ⟨h1, h2⟩
      · exact h2
      · exact absurd hyes h1
    conv => whnf
    refine bcase (fun k2 => ?_) (fun k2 => ?_)
    · have k2 := ne_true k2
      conv => whnf
      intro z hz
      have hz67 : z = ((p + 1#32).toNat : Int) := by rw [hz, wu32, add1 p hp]; omega
      clear hz
      subst hz67
      conv => whnf
      refine ⟨_, ⟨rfl, trivial⟩, rfl, ?_⟩
      congr 1
      rw [decide_eq_decide, hqn]
      refine Iff.trans int_eq ⟨fun e => ⟨hyes, .inr e⟩, fun g => ?_⟩
      rcases g.2 with e | e
      · exact absurd (num_zero.2 e) k2
      · exact e
    · have k2 := ne_false k2
      conv => whnf
      refine ⟨_, ⟨rfl, trivial⟩, rfl, ?_⟩
      rw [decide_eq_true ⟨hyes, .inl (num_zero.1 k2)⟩]; rfl
  rintro β w3 ⟨hw3, hβ⟩
  subst hw3
  conv => whnf
  refine vcCond_split lok rfl (fun h2 => ?_) (fun h2 => ?_)
  · rw [h2] at hβ
    have hno : ¬ goodB (ws.drop at_) p := by
      intro g
      rw [decide_eq_true g] at hβ
      cases hβ
    have hst := goF_stop (w := ws) (at_ := at_) (prev := p) (rec := rec) hno
    rw [hst] at hgo
    conv => whnf
    refine vcLoop_inv lok (σ := Nat)
      (fun i => [(12, .int .i64 i), (11, .bool (cleanF ((ws.drop at_).take (i - at_)))), (0, .slice a ws.length c), (6, .int .u32 p.toNat), (7, .slice ra rec.length rc), (8, .int .i64 at_)])
      (fun i w4 => at_ ≤ i ∧ i ≤ ws.length ∧ w4 = w3) (fun i => ws.length - i)
      at_ ⟨rfl, by rw [Nat.sub_self]; rfl, rfl, rfl, rfl, rfl, trivial⟩ ⟨Nat.le_refl _, hat, rfl⟩ ?_
    rintro i w4 ⟨hi1, hi2, hw4⟩
    subst hw4
    conv => whnf
    refine vcCond_split lok rfl (fun h3 => ?_) (fun h3 => ?_)
    · have h3 := dt h3
      conv => whnf
      have hil : i < ws.length := by omega
      refine vcReg_meet lok (fun β : Bool => [(11, .bool β)]) (fun β w' => w' = w4 ∧ β = cleanF ((ws.drop at_).take (i + 1 - at_))) [11] (fun _ => rfl) rfl ?_ ?_
      · conv => whnf
        refine bcase (fun k => ?_) (fun k => ?_)
        · conv => whnf
          have g77 := sl_rd ((h.ext x02)) ((i : Int)) (i) (0) (by omega) (by omega)
          obtain ⟨p77, o77, ha77, hb77, hcell77⟩ := g77
          refine ⟨p77, o77, ha77, hb77, ?_⟩
          conv => whnf
          refine ⟨_, hcell77, ?_⟩
          conv => whnf
          refine ⟨_, ⟨rfl, trivial⟩, rfl, ?_⟩
          rw [clean_step ws at_ i hi1 hil, k, Bool.true_and, drop_get0, decide_eq_decide]
          exact ones_eq
        · conv => whnf
          refine ⟨_, ⟨rfl, trivial⟩, rfl, ?_⟩
          rw [clean_step ws at_ i hi1 hil, k, Bool.false_and]
      rintro β5 w5 ⟨hw5, hβ5⟩
      subst hw5
      subst hβ5
      conv => whnf
      refine ⟨by omega, ?_⟩
      conv => whnf
      exact ⟨i + 1, ⟨rfl, rfl, rfl, rfl, rfl, rfl, trivial⟩, ⟨by omega, by omega, rfl⟩, by omega⟩
    · have h3 := df h3
      conv => whnf
      have hil : i = ws.length := by omega
      have e : tellF ws = ⟨p, rec, at_, cleanF (ws.drop at_)⟩ := by unfold tellF; rw [hgo]
      rw [e, List.take_of_length_le (by rw [List.length_drop]; omega)]
      exact ⟨ra, rc, rfl, hrec, x02⟩
  · rw [h2] at hβ
    have hg : goodB (ws.drop at_) p := by
      by_cases g : goodB (ws.drop at_) p
      · exact g
      · rw [decide_eq_false g] at hβ; cases hβ
    rcases hone with ⟨_, eq, er, hs2⟩ | ⟨g, _⟩
    rotate_left
    · exact absurd hg.1 g
    obtain ⟨q1, ⟨q2, q3⟩, q4, q5, q6⟩ := hg.1.1
    have eRl := recB_len q6
    rw [← er] at eRl
    have hgo2 := goF_good (w := ws) (at_ := at_) (prev := p) (rec := rec) hg
    rw [← eRl, ← eq, ← er] at hgo2
    rw [List.length_drop, ← eRl] at q6
    rw [← eq] at q2 q3
    conv => whnf
    refine ⟨by omega, ?_⟩
    conv => whnf
    refine ⟨by omega, ?_⟩
    conv => whnf
    exact ⟨(at_ + (r.length + 4), q, r, a2, c2), ⟨by congr 2, rfl, rfl, rfl, trivial⟩, ⟨by omega, q3, hs2, hgo.trans hgo2, x02⟩, by show ws.length - (at_ + (r.length + 4)) < ws.length - at_; omega⟩
end Go.Proofs.Ytgipackjnncabaa

/- A rule more for loops: all ways out of a loop by one exit meet. No program is named here. -/
set_option linter.unusedVariables false
namespace Go.Vc
open Go.RowKit

/-- what is asked where the ways out by exit k meet -/
def meetX {σ : Type} (k : Nat) (F : σ → Env) (I : σ → World → Prop) (Q : Exit → Env → World → Prop) : Exit → Env → World → Prop
  | .normal, E, w => Q .normal E w
  | .exit i, E, w => match Nat.beq i k with
    | true => ∃ s, subE (F s) E ∧ I s w
    | false => Q (.exit i) E w
  | .goto l, E, w => Q (.goto l) E w
  | .ret, E, w => Q .ret E w
  | .panic ch, E, w => Q (.panic ch) E w
  | .outgrown, E, w => Q .outgrown E w

theorem vcLoop_meet {P : Program} {n : Nat} {c : Code} {E : Env} {w : World} {Q : Exit → Env → World → Prop} {σ : Type} (k : Nat) (F : σ → Env) (I : σ → World → Prop)
    (h1 : vcLoop P n c E w (meetX k F I Q)) (h2 : ∀ s w', I s w' → Q (.exit k) (F s) w') : vcLoop P n c E w Q := by
  unfold vcLoop at h1 ⊢
  intro a hr
  refine wp_mono (h1 a hr) fun e a' w' he => ?_
  obtain ⟨E', hr', hq⟩ := he
  cases e with
  | normal => exact ⟨E', hr', hq⟩
  | exit i =>
    cases hb : Nat.beq i k with
    | true =>
      have e := Nat.eq_of_beq_eq_true hb
      subst e
      have hq : ∃ s, subE (F s) E' ∧ I s w' := by
        unfold meetX at hq
        simp only [hb] at hq
        exact hq
      obtain ⟨s, hsub, hI⟩ := hq
      exact ⟨F s, hr'.sub (subE_sound hsub), h2 s w' hI⟩
    | false =>
      have hq : Q (.exit i) E' w' := by
        unfold meetX at hq
        simp only [hb] at hq
        exact hq
      exact ⟨E', hr', hq⟩
  | goto i => exact ⟨E', hr', hq⟩
  | ret => exact ⟨E', hr', hq⟩
  | panic i => exact ⟨E', hr', hq⟩
  | outgrown => exact ⟨E', hr', hq⟩

/-- what is asked of a body whose second part is a scope that no jump leaves or enters -/
def vcFnS (L : Lay) (P : Program) (fn : Func) (args : List Value) (w : World) (R : Value → World → Prop) : Prop :=
  match fn.body with
  | some (.seq x (.scope c)) => vc L P fn.ntmps (.seq x c) (argEnv 0 args) w (vcPost L fn.results.toList R)
  | _ => False

theorem calls_of_vcS {L : Lay} {P : Program} {w : World} {f : FuncId} {fn : Func} {args : List Value} {R : Value → World → Prop} (hL : L.Ok P) (hf : P.funcs[f]? = some fn)
    (h : vcFnS L P fn args w R) (hsz : Nat.ble args.length fn.ntmps = true) : Calls P f args.toArray w (Ret R) := by
  unfold vcFnS at h
  split at h
  · rename_i x c hb
    have hrep : Rep fn.ntmps (argEnv 0 args) { tmps := args.toArray ++ Array.replicate (fn.ntmps - args.toArray.size) undef, defers := [] } := by
      have hsz := Nat.le_of_ble_eq_true hsz
      refine ⟨by simp; omega, rfl, fun t v hv => ?_⟩
      obtain ⟨_, h2⟩ := argEnv_look args 0 t v hv
      have ht : t < args.length := by
        rcases Nat.lt_or_ge t args.length with h' | h'
        · exact h'
        · simp [List.getElem?_eq_none h'] at h2
      simp only [Nat.sub_zero] at h2
      simp [Array.getElem?_append, ht, h2]
      simpa [List.getElem?_eq_getElem ht] using h2
    have hw : (Code.seq x (.scope c)).wp P (lift fn.ntmps (vcPost L fn.results.toList R)) { tmps := args.toArray ++ Array.replicate (fn.ntmps - args.toArray.size) undef, defers := [] } w := by
      refine wp_seq (wp_mono (vc_sound hL x (argEnv 0 args) _ w _ hrep h) fun e a' w' he => ?_)
      obtain ⟨E', hr', hq⟩ := he
      cases e with
      | normal =>
        refine wp_scope_straight (wp_mono (vc_sound hL c E' a' w' _ hr' hq) fun e2 a2 w2 he2 => ?_)
        cases e2 with
        | goto l =>
          obtain ⟨_, _, hq2⟩ := he2
          exact hq2.elim
        | normal => exact he2
        | exit i => exact he2
        | ret => exact he2
        | panic i => exact he2
        | outgrown => exact he2
      | exit i => exact ⟨E', hr', hq⟩
      | goto i => exact ⟨E', hr', hq⟩
      | ret => exact ⟨E', hr', hq⟩
      | panic i => exact ⟨E', hr', hq⟩
      | outgrown => exact ⟨E', hr', hq⟩
    refine calls_of_wp hf hb (wp_mono hw fun e a' w' he => ?_)
    obtain ⟨E', hr, hq⟩ := he
    have key : vcRes L E' w' fn.results.toList (fun vs => match vs with
        | [v] => R v w'
        | vs => R (.tuple vs.toArray) w') → a'.defers = [] ∧ ∃ v, (results fn a'.tmps).run P w' = .ok v w' ∧ R v w' := by
      intro hres
      obtain ⟨vs, hrun, hk, _⟩ := vcRes_sound hL hr _ _ hres
      refine ⟨hr.defers, _, run_results hrun, ?_⟩
      match vs, hk with
      | [], hk => exact hk
      | [v], hk => exact hk
      | _ :: _ :: _, hk => exact hk
    cases e with
    | normal => exact key hq
    | ret => exact key hq
    | exit i => exact hq.elim
    | goto i => exact hq.elim
    | panic i => exact hq.elim
    | outgrown => exact hq.elim
  · exact h.elim
end Go.Vc

/- Plain laws of layer 22: two slots of a flash. No program in sight. -/
set_option linter.unusedSimpArgs false
set_option linter.unusedVariables false
namespace Go.Proofs.Ytgipackjnncabaa

/-- words outside a place are as they were -/
def Out (a b : Nat) (ws vs : List (BitVec 32)) : Prop := vs.length = ws.length ∧ ∀ i, i < a ∨ b ≤ i → vs.getD i 0#32 = ws.getD i 0#32
section
variable {a b : Nat} {ws vs us : List (BitVec 32)} {s : FS}
theorem Out.refl (a b : Nat) (ws : List (BitVec 32)) : Out a b ws ws := ⟨rfl, fun _ _ => rfl⟩
theorem Out.trans (h : Out a b ws vs) (k : Out a b vs us) : Out a b ws us := ⟨k.1.trans h.1, fun i hi => (k.2 i hi).trans (h.2 i hi)⟩
theorem Out.prog (i : Int) (x : BitVec 32) (h1 : (a : Int) ≤ i) (h2 : i < b) : Out a b s.ws (progF s i x).1.ws := by
  unfold progF
  split
  · exact Out.refl _ _ _
  · split
    · exact Out.refl _ _ _
    · split
      · exact ⟨by simp [FS.tore], fun k hk => by show (s.ws.set _ _).getD k 0#32 = _; rw [set_get0 _ _ _ _ (by omega), if_neg (by omega)]⟩
      · exact ⟨by simp [FS.did], fun k hk => by show (s.ws.set _ _).getD k 0#32 = _; rw [set_get0 _ _ _ _ (by omega), if_neg (by omega)]⟩
theorem Out.erase (n : Nat) (h1 : a ≤ 256 * n) (h2 : 256 * (n + 1) ≤ b) : Out a b s.ws (eraseF s n).1.ws := by
  have hm : s.mask.toNat % 257 ≤ 256 := by omega
  unfold eraseF
  split
  · exact Out.refl _ _ _
  · split
    · exact Out.refl _ _ _
    · split
      · refine ⟨by show (s.tore _).ws.length = _; rw [tore_ws, fillF_len], fun k hk => ?_⟩
        show (s.tore _).ws.getD k 0#32 = _
        rw [tore_ws, fill_get0, if_neg (by omega)]
      · refine ⟨by show (s.did _).ws.length = _; rw [did_ws, fillF_len], fun k hk => ?_⟩
        show (s.did _).ws.getD k 0#32 = _
        rw [did_ws, fill_get0, if_neg (by omega)]
theorem Out.progAll : ∀ (xs : List (BitVec 32)) (s : FS) (i : Int), (a : Int) ≤ i → i + xs.length ≤ b → Out a b s.ws (progAllF s i xs).1.ws
  | [], s, i, _, _ => Out.refl _ _ _
  | x :: xs, s, i, h1, h2 => by
    rw [List.length_cons] at h2
    have g := Out.prog (a := a) (b := b) (s := s) i x h1 (by omega)
    unfold progAllF
    split
    · exact g.trans (Out.progAll xs _ (i + 1) (by omega) (by omega))
    · exact g
end

/-- sectors erased, one behind the other -/
def eraseAllF (s : FS) (n : Nat) : Nat → FS × Int
  | 0 => (s, 0)
  | k + 1 => if (eraseF s n).2 = 0 then eraseAllF (eraseF s n).1 (n + 1) k else ((eraseF s n).1, (eraseF s n).2)
theorem Out.eraseAll {a b : Nat} : ∀ (k : Nat) (s : FS) (n : Nat), a ≤ 256 * n → 256 * (n + k) ≤ b → Out a b s.ws (eraseAllF s n k).1.ws
  | 0, s, n, _, _ => Out.refl _ _ _
  | k + 1, s, n, h1, h2 => by
    have g := Out.erase (a := a) (b := b) (s := s) n h1 (by omega)
    unfold eraseAllF
    split
    · exact g.trans (Out.eraseAll k _ (n + 1) (by omega) (by omega))
    · exact g
theorem fill_add (ws : List (BitVec 32)) (a k l : Nat) : fillF (fillF ws a k) (a + k) l = fillF ws a (k + l) := by
  apply ext0
  · simp [fillF_len]
  · intro i hi
    rw [fill_get0, fill_get0, fill_get0, fillF_len]
    by_cases h1 : a + k ≤ i ∧ i < a + k + l ∧ i < ws.length
    · rw [if_pos h1, if_pos (by omega)]
    · rw [if_neg h1]
      by_cases h2 : a ≤ i ∧ i < a + k ∧ i < ws.length
      · rw [if_pos h2, if_pos (by omega)]
      · rw [if_neg h2, if_neg (by omega)]
theorem eraseAll_cases : ∀ (k : Nat) (s : FS) (n : Nat), s.off = false → 256 * (n + k) ≤ s.ws.length →
    (∃ t, eraseAllF s n k = (t, 0) ∧ t.ws = fillF s.ws (256 * n) (256 * k) ∧ t.off = false ∧ (s.left < 0 → t.left < 0)) ∨
    (∃ t q, eraseAllF s n k = (t, 7) ∧ q ≤ 256 * k ∧ t.ws = fillF s.ws (256 * n) q ∧ t.off = true ∧ 0 ≤ s.left)
  | 0, s, n, h, _ => .inl ⟨s, rfl, (fillF_zero _ _).symm, h, id⟩
  | k + 1, s, n, h, hl => by
    by_cases hz : s.left = 0
    · have e : eraseF s n = (s.tore (fillF s.ws (256 * n) (s.mask.toNat % 257)), 7) := by
        unfold eraseF
        rw [h, if_neg (by simp), if_neg (by omega), if_pos hz, Int.toNat_natCast]
      refine .inr ⟨_, s.mask.toNat % 257, by rw [eraseAllF, e]; rfl, by omega, rfl, rfl, by omega⟩
    · have e : eraseF s n = (s.did (fillF s.ws (256 * n) 256), 0) := by
        unfold eraseF
        rw [h, if_neg (by simp), if_neg (by omega), if_neg hz, Int.toNat_natCast]
      have ih := eraseAll_cases k (s.did (fillF s.ws (256 * n) 256)) (n + 1) ((did_off _ _).trans h) (by rw [did_ws, fillF_len]; omega)
      have e2 : eraseAllF s n (k + 1) = eraseAllF (s.did (fillF s.ws (256 * n) 256)) (n + 1) k := by rw [eraseAllF, e]; rfl
      rw [e2]
      have ew : ∀ q, fillF (s.did (fillF s.ws (256 * n) 256)).ws (256 * (n + 1)) q = fillF s.ws (256 * n) (256 + q) := fun q => by rw [did_ws]; exact fill_add s.ws (256 * n) 256 q
      rcases ih with ⟨t, h1, h2, h3, h4⟩ | ⟨t, q, h1, h2, h3, h4, h5⟩
      · refine .inl ⟨t, h1, ?_, h3, fun hn => h4 ?_⟩
        · rw [h2, ew]; congr 1; omega
        · show (if 0 < s.left then s.left - 1 else s.left) < 0
          rw [if_neg (by omega)]; exact hn
      · refine .inr ⟨t, 256 + q, h1, by omega, by rw [h3, ew], h4, ?_⟩
        have h5 : 0 ≤ (if 0 < s.left then s.left - 1 else s.left) := h5
        split at h5 <;> omega

/-! ### a slot -/
/-- can there be a version, and a size? -/
def canN (v : BitVec 32) (n : Int) : Prop := v ≠ 0#32 ∧ v ≠ ones ∧ 1 ≤ n ∧ n ≤ 2048
instance (v : BitVec 32) (n : Int) : Decidable (canN v n) := by unfold canN; infer_instance
def badF (slot : Int) : Prop := slot < 0 ∨ 1 < slot
instance (slot : Int) : Decidable (badF slot) := by unfold badF; infer_instance
/-- where a slot's words begin -/
def atF (n : Nat) (slot : Int) : Nat := (n + 3 * slot.toNat) * 256
/-- a slot's head -/
def headW (ws : List (BitVec 32)) (p : Nat) : Option (BitVec 32 × Nat) :=
  if ws.getD (p + 2) 0#32 = 0#32 ∧ canN (ws.getD p 0#32) (ws.getD (p + 1) 0#32).toNat then some (ws.getD p 0#32, (ws.getD (p + 1) 0#32).toNat) else none
def headF (s : FS) (n : Nat) (slot : Int) : Option (BitVec 32 × Nat) := if s.off = true ∨ badF slot then none else headW s.ws (atF n slot)
/-- does a slot of size m have chunk k? -/
def bitB (ws : List (BitVec 32)) (p m k : Nat) : Bool := decide (64 * k < m ∧ ws.getD (p + 3 + k) 0#32 = 0#32)
def haveB (ws : List (BitVec 32)) (p m : Nat) : Nat → BitVec 32
  | 0 => 0#32
  | k + 1 => haveB ws p m k ||| (if bitB ws p m k = true then BitVec.twoPow 32 k else 0#32)
def allB (ws : List (BitVec 32)) (p m k : Nat) : Bool := (List.range k).all fun i => decide (64 * i < m → ws.getD (p + 3 + i) 0#32 = 0#32)
def haveW (ws : List (BitVec 32)) (p : Nat) : BitVec 32 × Bool :=
  match headW ws p with
  | none => (0#32, false)
  | some (_, m) => (haveB ws p m 32, allB ws p m 32)
def haveF (s : FS) (n : Nat) (slot : Int) : BitVec 32 × Bool := if s.off = true ∨ badF slot then (0#32, false) else haveW s.ws (atF n slot)
def sealedF (s : FS) (n : Nat) (slot : Int) : Bool := (haveF s n slot).2 && decide (s.ws.getD (atF n slot + 35) 0#32 = 0#32)
def checkF (s : FS) (slot : Int) : Int := if s.off = true then 7 else if badF slot then 1 else 0
/-- how many bytes a chunk has -/
def lenC (m k : Nat) : Nat := min 64 (m - 64 * k)
def sliceF (ws : List (BitVec 32)) (a k : Nat) : List (BitVec 32) := (ws.drop a).take k

def dropSF (s : FS) (n : Nat) (slot : Int) : FS × Int := if checkF s slot ≠ 0 then (s, checkF s slot) else eraseF s ((n + 3 * slot.toNat : Nat) : Int)
def beginSF (s : FS) (n : Nat) (slot : Int) (v : BitVec 32) (m : Int) : FS × Int :=
  if checkF s slot ≠ 0 then (s, checkF s slot) else if ¬ canN v m then (s, 1)
  else if (eraseAllF s (n + 3 * slot.toNat) 3).2 = 0 then progAllF (eraseAllF s (n + 3 * slot.toNat) 3).1 (atF n slot) [v, BitVec.ofInt 32 m, 0#32]
  else ((eraseAllF s (n + 3 * slot.toNat) 3).1, 7)
def writeSF (s : FS) (n : Nat) (slot chunk : Int) (b : List (BitVec 8)) : FS × Int :=
  if checkF s slot ≠ 0 then (s, checkF s slot) else
  match headW s.ws (atF n slot) with
  | none => (s, 8)
  | some (_, m) =>
    if ¬ (0 ≤ chunk ∧ chunk < 32 ∧ 64 * chunk < m ∧ b.length = lenC m chunk.toNat) then (s, 1)
    else if sealedF s n slot = true then (s, 25)
    else if s.ws.getD (atF n slot + 3 + chunk.toNat) 0#32 = 0#32 then (s, 0)
    else if (progAllF s ((atF n slot + 256 + 16 * chunk.toNat : Nat) : Int) (wordsF b)).2 = 0 then
      if sliceF (progAllF s ((atF n slot + 256 + 16 * chunk.toNat : Nat) : Int) (wordsF b)).1.ws (atF n slot + 256 + 16 * chunk.toNat) (wordsF b).length = wordsF b then
        progF (progAllF s ((atF n slot + 256 + 16 * chunk.toNat : Nat) : Int) (wordsF b)).1 ((atF n slot + 3 + chunk.toNat : Nat) : Int) 0#32
      else ((progAllF s ((atF n slot + 256 + 16 * chunk.toNat : Nat) : Int) (wordsF b)).1, 4)
    else ((progAllF s ((atF n slot + 256 + 16 * chunk.toNat : Nat) : Int) (wordsF b)).1, 7)
/-- what is wrong, if a slot is not whole -/
def wholeSF (s : FS) (n : Nat) (slot : Int) : Nat × Int :=
  if checkF s slot ≠ 0 then (0, checkF s slot) else
  match headW s.ws (atF n slot) with
  | none => (0, 8)
  | some (_, m) => if (haveW s.ws (atF n slot)).2 = true then (m, 0) else (0, 2)
def bytesSF (s : FS) (n : Nat) (slot : Int) : List (BitVec 8) × Int :=
  if (wholeSF s n slot).2 = 0 then ((bytesF (sliceF s.ws (atF n slot + 256) (((wholeSF s n slot).1 + 3) / 4))).take (wholeSF s n slot).1, 0) else ([], (wholeSF s n slot).2)
def sealSF (s : FS) (n : Nat) (slot : Int) : FS × Int :=
  if (wholeSF s n slot).2 = 0 then progF s ((atF n slot + 35 : Nat) : Int) 0#32 else (s, (wholeSF s n slot).2)

section
variable {s : FS} {n : Nat} {slot : Int} {ws : List (BitVec 32)} {p m : Nat}
theorem check_zero (h : checkF s slot = 0) : s.off = false ∧ ¬ badF slot := by
  unfold checkF at h
  split at h
  · exact absurd h (by decide)
  · split at h
    · exact absurd h (by decide)
    · rename_i h1 h2
      exact ⟨by simpa using h1, h2⟩
theorem check_ok (h : s.off = false) (h2 : ¬ badF slot) : checkF s slot = 0 := by
  unfold checkF
  rw [h, if_neg (by simp), if_neg h2]

/-! ### what is done to a slot stays in it -/
theorem lenC_le (m k : Nat) : lenC m k ≤ 64 := Nat.min_le_left _ _
theorem headW_size {x : BitVec 32 × Nat} (h : headW ws p = some x) : canN x.1 x.2 ∧ ws.getD (p + 2) 0#32 = 0#32 ∧ ws.getD p 0#32 = x.1 ∧ (ws.getD (p + 1) 0#32).toNat = x.2 := by
  unfold headW at h
  split at h
  · rename_i k
    cases h
    exact ⟨k.2, k.1, rfl, rfl⟩
  · cases h
theorem drop_out : Out (atF n slot) (atF n slot + 768) s.ws (dropSF s n slot).1.ws := by
  unfold dropSF atF
  split
  · exact Out.refl _ _ _
  · exact Out.erase _ (by omega) (by omega)
theorem begin_out (v : BitVec 32) (m : Int) : Out (atF n slot) (atF n slot + 768) s.ws (beginSF s n slot v m).1.ws := by
  unfold beginSF
  have g : Out (atF n slot) (atF n slot + 768) s.ws (eraseAllF s (n + 3 * slot.toNat) 3).1.ws := Out.eraseAll 3 s _ (by unfold atF; omega) (by unfold atF; omega)
  split
  · exact Out.refl _ _ _
  · split
    · exact Out.refl _ _ _
    · split
      · exact g.trans (Out.progAll _ _ _ (by omega) (by show ((atF n slot : Nat) : Int) + ((3 : Nat) : Int) ≤ _; omega))
      · exact g
theorem write_out (chunk : Int) (b : List (BitVec 8)) : Out (atF n slot) (atF n slot + 768) s.ws (writeSF s n slot chunk b).1.ws := by
  unfold writeSF
  split
  · exact Out.refl _ _ _
  · split
    · exact Out.refl _ _ _
    · rename_i v m hm
      split
      · exact Out.refl _ _ _
      · rename_i h1
        have h1 := Decidable.not_not.1 h1
        have hb : b.length ≤ 64 := by rw [h1.2.2.2]; exact lenC_le _ _
        have g : Out (atF n slot) (atF n slot + 768) s.ws (progAllF s ((atF n slot + 256 + 16 * chunk.toNat : Nat) : Int) (wordsF b)).1.ws :=
          Out.progAll _ _ _ (by omega) (by rw [wordsF_len]; omega)
        split
        · exact Out.refl _ _ _
        · split
          · exact Out.refl _ _ _
          · split
            · split
              · exact g.trans (Out.prog _ _ (by omega) (by omega))
              · exact g
            · exact g
theorem seal_out : Out (atF n slot) (atF n slot + 768) s.ws (sealSF s n slot).1.ws := by
  unfold sealSF
  split
  · exact Out.prog _ _ (by omega) (by omega)
  · exact Out.refl _ _ _

/-! ### the chunks that a slot has, as bits -/
theorem haveB_bit (ws : List (BitVec 32)) (p m : Nat) : ∀ (K i : Nat), K ≤ 32 → i < 32 → (haveB ws p m K).getLsbD i = (decide (i < K) && bitB ws p m i)
  | 0, i, _, _ => by simp [haveB]
  | K + 1, i, hK, hi => by
    rw [haveB, BitVec.getLsbD_or, haveB_bit ws p m K i (by omega) hi]
    by_cases h : i = K
    · subst h
      cases hb : bitB ws p m i <;> simp [hi]
    · have e : decide (i < K + 1) = decide (i < K) := by rw [decide_eq_decide]; omega
      rw [e]
      cases hb : bitB ws p m K <;> simp [Ne.symm h]
theorem haveB_more {K : Nat} (hK : m ≤ 64 * K) : ∀ j, haveB ws p m (K + j) = haveB ws p m K
  | 0 => rfl
  | j + 1 => by
    rw [← Nat.add_assoc, haveB, haveB_more hK j]
    have : bitB ws p m (K + j) = false := by unfold bitB; exact decide_eq_false (by omega)
    rw [this, if_neg (by simp), BitVec.or_zero]
theorem allB_succ (ws : List (BitVec 32)) (p m k : Nat) : allB ws p m (k + 1) = (allB ws p m k && decide (64 * k < m → ws.getD (p + 3 + k) 0#32 = 0#32)) := by
  unfold allB; rw [List.range_succ, List.all_append]; simp
theorem allB_iff {k : Nat} : allB ws p m k = true ↔ ∀ i, i < k → 64 * i < m → ws.getD (p + 3 + i) 0#32 = 0#32 := by
  unfold allB
  rw [List.all_eq_true]
  constructor
  · intro h i hi
    exact of_decide_eq_true (h i (List.mem_range.2 hi))
  · intro h i hi
    exact decide_eq_true (h i (List.mem_range.1 hi))
theorem allB_more {K : Nat} (hK : m ≤ 64 * K) (j : Nat) : allB ws p m (K + j) = allB ws p m K := by
  rw [Bool.eq_iff_iff, allB_iff, allB_iff]
  exact ⟨fun h i hi hm => h i (by omega) hm, fun h i hi hm => h i (by omega) hm⟩
/-- bits that are not there yet: or is and -/
theorem haveB_add (ws : List (BitVec 32)) (p m k : Nat) (hk : k < 32) : haveB ws p m k + BitVec.twoPow 32 k = haveB ws p m k ||| BitVec.twoPow 32 k := by
  rw [BitVec.add_eq_or_of_and_eq_zero]
  apply BitVec.eq_of_getLsbD_eq
  intro i hi
  rw [BitVec.getLsbD_and, haveB_bit ws p m k i (by omega) hi, BitVec.getLsbD_twoPow]
  by_cases h : i = k
  · subst h; simp
  · simp [Ne.symm h]
end

/-! ### begun -/
theorem ofInt_size {m : Int} (h : 1 ≤ m ∧ m ≤ 2048) : (BitVec.ofInt 32 m).toNat = m.toNat := by
  rw [BitVec.toNat_ofInt]
  omega
theorem headW_begun {ws : List (BitVec 32)} {p : Nat} {v : BitVec 32} {m : Int} (hc : canN v m) (h0 : ws.getD p 0#32 = v) (h1 : ws.getD (p + 1) 0#32 = BitVec.ofInt 32 m) (h2 : ws.getD (p + 2) 0#32 = 0#32) : headW ws p = some (v, m.toNat) := by
  unfold headW
  have e := ofInt_size hc.2.2
  have hm : ((m.toNat : Nat) : Int) = m := Int.toNat_of_nonneg (by have := hc.2.2.1; omega)
  rw [h0, h1, h2, e, hm, if_pos ⟨rfl, hc⟩]
theorem headW_none {ws : List (BitVec 32)} {p : Nat} (h : ws.getD p 0#32 = ones ∨ ws.getD (p + 2) 0#32 ≠ 0#32) : headW ws p = none := by
  unfold headW
  rw [if_neg]
  rintro ⟨h1, h2, h3, _⟩
  rcases h with h | h
  · exact h3 h
  · exact h h1
/-- a slot that was begun, and has nothing yet -/
structure Fresh (ws : List (BitVec 32)) (p : Nat) (v : BitVec 32) (m : Nat) : Prop where
  head : headW ws p = some (v, m)
  rest : ∀ i, 3 ≤ i → i < 768 → ws.getD (p + i) 0#32 = ones

theorem begin_cases {s : FS} {n : Nat} {slot : Int} {v : BitVec 32} {m : Int} (hs : s.off = false) (hb : ¬ badF slot) (hc : canN v m) (hl : atF n slot + 768 ≤ s.ws.length) :
    (∃ t, beginSF s n slot v m = (t, 0) ∧ Fresh t.ws (atF n slot) v m.toNat ∧ t.off = false ∧ (s.left < 0 → t.left < 0)) ∨
    (∃ t, beginSF s n slot v m = (t, 7) ∧ t.off = true ∧ 0 ≤ s.left ∧ (Fresh t.ws (atF n slot) v m.toNat ∨ t.ws = s.ws ∨ headW t.ws (atF n slot) = none)) := by
  unfold beginSF
  rw [check_ok hs hb, if_neg (by simp), if_neg (fun k => k hc)]
  have hp : atF n slot = 256 * (n + 3 * slot.toNat) := by unfold atF; omega
  have g := eraseAll_cases 3 s (n + 3 * slot.toNat) hs (by omega)
  rw [← hp] at g
  generalize atF n slot = p at *
  rcases g with ⟨t, g1, g2, g3, g4⟩ | ⟨t, q, g1, g2, g3, g4, g5⟩
  · rw [g1, if_pos rfl]
    have hlt : t.ws.length = s.ws.length := by rw [g2, fillF_len]
    have ho : ∀ i, i < 768 → t.ws.getD (p + i) 0#32 = ones := fun i hi => by rw [g2, fill_get0, if_pos (by omega)]
    have k := progAll_cases [v, BitVec.ofInt 32 m, 0#32] t p g3 (by simp; omega)
    have whole : ∀ u : FS, u.ws = putW t.ws p [v, BitVec.ofInt 32 m, 0#32] → Fresh u.ws p v m.toNat := by
      intro u e
      have get : ∀ i, i < 768 → u.ws.getD (p + i) 0#32 = if i < 3 then [v, BitVec.ofInt 32 m, 0#32].getD i 0#32 else ones := by
        intro i hi
        rw [e, putW_getD _ _ _ _ (by simp; omega), ho i hi]
        by_cases h : i < 3
        · rw [if_pos h, if_pos (by simp; omega), and_ones, show p + i - p = i by omega]
        · rw [if_neg h, if_neg (by simp; omega)]
      exact ⟨headW_begun hc (by have := get 0 (by decide); simpa using this) (by rw [get 1 (by decide)]; rfl) (by rw [get 2 (by decide)]; rfl), fun i h1 h2 => by rw [get i h2, if_neg (by omega)]⟩
    rcases k with ⟨u, k1, k2, k3, k4, k5, _⟩ | ⟨u, i, k1, k2, k3, k4, k5, _⟩
    · exact .inl ⟨u, k1, whole u k2, k3, fun h => k5 (g4 h)⟩
    · refine .inr ⟨u, k1, k4, ?_, ?_⟩
      · rcases Int.lt_or_le s.left 0 with h | h
        · have := g4 h; omega
        · exact h
      have get : ∀ j, j < 768 → u.ws.getD (p + j) 0#32 = if j < i + 1 then ([v, BitVec.ofInt 32 m, 0#32].take i ++ [[v, BitVec.ofInt 32 m, 0#32].getD i 0#32 ||| ~~~t.mask]).getD j 0#32 else ones := by
        intro j hj
        have hyl : ([v, BitVec.ofInt 32 m, 0#32].take i ++ [[v, BitVec.ofInt 32 m, 0#32].getD i 0#32 ||| ~~~t.mask]).length = i + 1 := by
          rw [List.length_append, List.length_take, List.length_singleton]; omega
        simp only [List.length_cons, List.length_nil] at k2
        rw [k3, putW_getD _ _ _ _ (by rw [hyl]; omega), ho j hj, hyl]
        by_cases h : j < i + 1
        · rw [if_pos h, if_pos (by omega), and_ones, show p + j - p = j by omega]
        · rw [if_neg h, if_neg (by omega)]
      simp only [List.length_cons, List.length_nil] at k2
      by_cases h2 : i = 2
      · subst h2
        by_cases hz : ~~~t.mask = 0#32
        · left
          refine whole u ?_
          rw [k3, hz, BitVec.or_zero]
          rfl
        · right; right
          refine headW_none (.inr ?_)
          rw [get 2 (by decide)]
          show (0#32 ||| ~~~t.mask) ≠ 0#32
          rw [BitVec.zero_or]
          exact hz
      · right; right
        refine headW_none (.inr ?_)
        rw [get 2 (by decide), if_neg (by omega)]
        decide
  · rw [g1, if_neg (show ¬ ((7 : Int) = 0) by decide)]
    refine .inr ⟨t, rfl, g4, g5, ?_⟩
    by_cases hq : q = 0
    · subst hq
      exact .inr (.inl g3)
    · right; right
      refine headW_none (.inl ?_)
      rw [g3, fill_get0, if_pos (by omega)]

/-- nothing there: no chunk -/
theorem Fresh.have {ws : List (BitVec 32)} {p : Nat} {v : BitVec 32} {m : Nat} (h : Fresh ws p v m) : (haveW ws p).1 = 0#32 := by
  unfold haveW
  rw [h.head]
  show haveB ws p m 32 = 0#32
  apply BitVec.eq_of_getLsbD_eq
  intro i hi
  rw [haveB_bit ws p m 32 i (Nat.le_refl _) hi]
  have : bitB ws p m i = false := by
    unfold bitB
    apply decide_eq_false
    rintro ⟨_, h2⟩
    rw [Nat.add_assoc, h.rest _ (by omega) (by omega)] at h2
    exact absurd h2 (by decide)
  rw [this]
  simp

/-! ### an image in a slot -/
def chunkF (all : List (BitVec 8)) (k : Nat) : List (BitVec 8) := (all.drop (64 * k)).take 64
theorem chunkF_len (all : List (BitVec 8)) (k : Nat) : (chunkF all k).length = lenC all.length k := by unfold chunkF lenC; rw [List.length_take, List.length_drop]
theorem wordsF_get {bs : List (BitVec 8)} {i : Nat} (h : i < (bs.length + 3) / 4) : (wordsF bs).getD i 0#32 = wordOf (four bs i) := by
  simp [wordsF, List.getD, h]
theorem words_chunk (all : List (BitVec 8)) (k i : Nat) (hi : i < (wordsF (chunkF all k)).length) : (wordsF (chunkF all k)).getD i 0#32 = (wordsF all).getD (16 * k + i) 0#32 := by
  rw [wordsF_len, chunkF_len] at hi
  have hi2 : i < 16 ∧ 16 * k + i < (all.length + 3) / 4 := by unfold lenC at hi; omega
  rw [wordsF_get (by rw [chunkF_len]; exact hi), wordsF_get hi2.2]
  congr 1
  unfold four
  apply List.map_congr_left
  intro j hj
  have hj := List.mem_range.1 hj
  unfold chunkF
  simp only [List.getD]
  rw [List.getElem?_take, if_pos (by omega), List.getElem?_drop]
  congr 2; omega

structure Img (ws : List (BitVec 32)) (p : Nat) (v : BitVec 32) (all : List (BitVec 8)) : Prop where
  head : headW ws p = some (v, all.length)
  seal_ : ws.getD (p + 35) 0#32 = ones
  data : ∀ i, i < (wordsF all).length → ws.getD (p + 256 + i) 0#32 &&& (wordsF all).getD i 0#32 = (wordsF all).getD i 0#32
  mark : ∀ k, 64 * k < all.length → ws.getD (p + 3 + k) 0#32 = 0#32 → ∀ i, 16 * k ≤ i → i < 16 * k + (wordsF (chunkF all k)).length → ws.getD (p + 256 + i) 0#32 = (wordsF all).getD i 0#32
  len : p + 768 ≤ ws.length

theorem Fresh.img {ws : List (BitVec 32)} {p : Nat} {v : BitVec 32} {all : List (BitVec 8)} (h : Fresh ws p v all.length) (hl : p + 768 ≤ ws.length) : Img ws p v all := by
  have hc := (headW_size h.head).1.2.2
  have hm : all.length ≤ 2048 := by have := hc.2; omega
  refine ⟨h.head, h.rest 35 (by decide) (by decide), fun i hi => ?_, fun k hk h0 => ?_, hl⟩
  · rw [wordsF_len] at hi
    rw [Nat.add_assoc, h.rest _ (by omega) (by omega), and_ones]
  · rw [Nat.add_assoc, h.rest _ (by omega) (by omega)] at h0
    exact absurd h0 (by decide)

section
variable {s : FS} {n : Nat} {slot : Int} {v : BitVec 32} {all : List (BitVec 8)}
theorem Img.many {ws : List (BitVec 32)} {p : Nat} (h : Img ws p v all) : 1 ≤ all.length ∧ all.length ≤ 2048 := by
  have hc := (headW_size h.head).1.2.2
  have h1 : 1 ≤ (all.length : Int) := hc.1
  have h2 : (all.length : Int) ≤ 2048 := hc.2
  omega

theorem and_idem3 (a x : BitVec 32) (h : a &&& x = x) (m : BitVec 32) : (a &&& (x ||| m)) &&& x = x := by
  rw [BitVec.and_assoc]
  have e : (x ||| m) &&& x = x := by
    apply BitVec.eq_of_getLsbD_eq
    intro i hi
    rw [BitVec.getLsbD_and, BitVec.getLsbD_or]
    cases x.getLsbD i <;> simp
  rw [e, h]

/-- words laid over an image's data: an image still -/
theorem Img.lay {ws : List (BitVec 32)} {p : Nat} (h : Img ws p v all) (k : Nat) (hk : 64 * k < all.length) (hm : ws.getD (p + 3 + k) 0#32 ≠ 0#32) (ys : List (BitVec 32)) (hy : ys.length ≤ (wordsF (chunkF all k)).length)
    (hys : ∀ i, i < ys.length → (ws.getD (p + 256 + (16 * k + i)) 0#32 &&& ys.getD i 0#32) &&& (wordsF all).getD (16 * k + i) 0#32 = (wordsF all).getD (16 * k + i) 0#32) :
    Img (putW ws (p + 256 + 16 * k) ys) p v all ∧ ∀ j, j < 256 → (putW ws (p + 256 + 16 * k) ys).getD (p + j) 0#32 = ws.getD (p + j) 0#32 := by
  have hmany := h.many
  have hcl : (wordsF (chunkF all k)).length ≤ 16 ∧ 16 * k + (wordsF (chunkF all k)).length ≤ (wordsF all).length := by
    rw [wordsF_len, wordsF_len, chunkF_len]; unfold lenC; omega
  have hwl : (wordsF all).length ≤ 512 := by rw [wordsF_len]; omega
  have hlen := h.len
  have get := fun i => putW_getD ys ws (p + 256 + 16 * k) i (by omega)
  have low : ∀ j, j < 256 → (putW ws (p + 256 + 16 * k) ys).getD (p + j) 0#32 = ws.getD (p + j) 0#32 := fun j hj => by rw [get, if_neg (by omega)]
  refine ⟨⟨?_, ?_, ?_, ?_, ?_⟩, low⟩
  · have e := h.head
    unfold headW at e ⊢
    rw [low 1 (by decide), low 2 (by decide), show (putW ws (p + 256 + 16 * k) ys).getD p 0#32 = ws.getD p 0#32 from low 0 (by decide)]
    exact e
  · rw [low 35 (by decide)]; exact h.seal_
  · intro i hi
    rw [get]
    by_cases c : p + 256 + 16 * k ≤ p + 256 + i ∧ p + 256 + i < p + 256 + 16 * k + ys.length
    · rw [if_pos c]
      have g := hys (i - 16 * k) (by omega)
      rw [show 16 * k + (i - 16 * k) = i by omega] at g
      rw [show p + 256 + i - (p + 256 + 16 * k) = i - 16 * k by omega]
      exact g
    · rw [if_neg c]; exact h.data i hi
  · intro j hj h0 i h1 h2
    have hjl : (wordsF (chunkF all j)).length ≤ 16 := by rw [wordsF_len, chunkF_len]; unfold lenC; omega
    rw [Nat.add_assoc p 3 j, low _ (by omega), ← Nat.add_assoc] at h0
    have hne : j ≠ k := by rintro rfl; exact hm h0
    rw [get, if_neg (by omega)]
    exact h.mark j hj h0 i h1 h2
  · rw [putW_len]; exact hlen

theorem img_mark {ws : List (BitVec 32)} {p : Nat} (h : Img ws p v all) (k : Nat) (hk : 64 * k < all.length) (y : BitVec 32)
    (hd : ∀ i, 16 * k ≤ i → i < 16 * k + (wordsF (chunkF all k)).length → ws.getD (p + 256 + i) 0#32 = (wordsF all).getD i 0#32) : Img (ws.set (p + 3 + k) y) p v all := by
  have hmany := h.many
  have hlen := h.len
  have get := fun i => set_get0 ws (p + 3 + k) i y (by omega)
  refine ⟨?_, ?_, ?_, ?_, by rw [List.length_set]; exact hlen⟩
  · have e := h.head
    have l0 : (ws.set (p + 3 + k) y).getD p 0#32 = ws.getD p 0#32 := by rw [get, if_neg (by omega)]
    have l1 : (ws.set (p + 3 + k) y).getD (p + 1) 0#32 = ws.getD (p + 1) 0#32 := by rw [get, if_neg (by omega)]
    have l2 : (ws.set (p + 3 + k) y).getD (p + 2) 0#32 = ws.getD (p + 2) 0#32 := by rw [get, if_neg (by omega)]
    unfold headW at e ⊢
    rw [l0, l1, l2]
    exact e
  · rw [get, if_neg (by omega)]; exact h.seal_
  · intro i hi
    rw [get, if_neg (by omega)]; exact h.data i hi
  · intro j hj h0 i h1 h2
    rw [get, if_neg (by omega)]
    by_cases c : j = k
    · subst c; exact hd i h1 h2
    · rw [get, if_neg (by omega)] at h0
      exact h.mark j hj h0 i h1 h2

/-- a chunk of an image is written -/
theorem write_img (hs : s.off = false) (hb : ¬ badF slot) (h : Img s.ws (atF n slot) v all) (k : Nat) (hk : 64 * k < all.length) :
    (∃ t, writeSF s n slot k (chunkF all k) = (t, 0) ∧ t.off = false ∧ (s.left < 0 → t.left < 0) ∧ s.left - 17 ≤ t.left ∧ Img t.ws (atF n slot) v all ∧ t.ws.getD (atF n slot + 3 + k) 0#32 = 0#32 ∧
      ∀ j, j < 32 → j ≠ k → t.ws.getD (atF n slot + 3 + j) 0#32 = s.ws.getD (atF n slot + 3 + j) 0#32) ∨
    (∃ t, writeSF s n slot k (chunkF all k) = (t, 7) ∧ t.off = true ∧ 0 ≤ s.left ∧ s.left < 17 ∧ Img t.ws (atF n slot) v all ∧
      ∀ j, j < 32 → s.ws.getD (atF n slot + 3 + j) 0#32 = 0#32 → t.ws.getD (atF n slot + 3 + j) 0#32 = 0#32) := by
  have hmany := h.many
  have hlen := h.len
  have hcl : (wordsF (chunkF all k)).length ≤ 16 ∧ 16 * k + (wordsF (chunkF all k)).length ≤ (wordsF all).length := by
    rw [wordsF_len, wordsF_len, chunkF_len]; unfold lenC; omega
  have hwl : (wordsF all).length ≤ 512 := by rw [wordsF_len]; omega
  have hns : sealedF s n slot = false := by
    unfold sealedF
    rw [h.seal_]
    simp only [show ¬ (ones = 0#32) from by decide, decide_false, Bool.and_false]
  have ew : writeSF s n slot k (chunkF all k) = (if s.ws.getD (atF n slot + 3 + k) 0#32 = 0#32 then (s, 0)
      else if (progAllF s ((atF n slot + 256 + 16 * k : Nat) : Int) (wordsF (chunkF all k))).2 = 0 then
        if sliceF (progAllF s ((atF n slot + 256 + 16 * k : Nat) : Int) (wordsF (chunkF all k))).1.ws (atF n slot + 256 + 16 * k) (wordsF (chunkF all k)).length = wordsF (chunkF all k) then
          progF (progAllF s ((atF n slot + 256 + 16 * k : Nat) : Int) (wordsF (chunkF all k))).1 ((atF n slot + 3 + k : Nat) : Int) 0#32
        else ((progAllF s ((atF n slot + 256 + 16 * k : Nat) : Int) (wordsF (chunkF all k))).1, 4)
      else ((progAllF s ((atF n slot + 256 + 16 * k : Nat) : Int) (wordsF (chunkF all k))).1, 7)) := by
    unfold writeSF
    rw [check_ok hs hb, if_neg (by simp), h.head]
    show (if ¬ ((0 : Int) ≤ (k : Int) ∧ (k : Int) < 32 ∧ 64 * (k : Int) < (all.length : Int) ∧ (chunkF all k).length = lenC all.length (k : Int).toNat) then (s, 1) else _) = _
    rw [if_neg (by rw [chunkF_len, Int.toNat_natCast]; omega), hns, if_neg (by simp), Int.toNat_natCast]
  rw [ew]
  clear ew
  by_cases hm : s.ws.getD (atF n slot + 3 + k) 0#32 = 0#32
  · rw [if_pos hm]
    exact .inl ⟨s, rfl, hs, id, by omega, h, hm, fun _ _ _ => rfl⟩
  · rw [if_neg hm]
    have g := progAll_cases (wordsF (chunkF all k)) s (atF n slot + 256 + 16 * k) hs (by omega)
    generalize atF n slot = p at *
    rcases g with ⟨t, g1, g2, g3, g4, g5, g6⟩ | ⟨t, i, g1, g2, g3, g4, g5, g6⟩
    · have k1 := h.lay k hk hm (wordsF (chunkF all k)) (Nat.le_refl _) (fun i hi => by
        rw [words_chunk all k i hi, BitVec.and_assoc, BitVec.and_self]
        exact h.data _ (by omega))
      rw [← g2] at k1
      have hlt : t.ws.length = s.ws.length := by rw [g2, putW_len]
      have hd : ∀ i, 16 * k ≤ i → i < 16 * k + (wordsF (chunkF all k)).length → t.ws.getD (p + 256 + i) 0#32 = (wordsF all).getD i 0#32 := by
        intro i h1 h2
        rw [g2, putW_getD _ _ _ _ (by omega), if_pos (by omega), show p + 256 + i - (p + 256 + 16 * k) = i - 16 * k by omega, words_chunk all k _ (by omega), show 16 * k + (i - 16 * k) = i by omega]
        exact h.data i (by omega)
      have hsl : sliceF t.ws (p + 256 + 16 * k) (wordsF (chunkF all k)).length = wordsF (chunkF all k) := by
        unfold sliceF
        apply ext0
        · rw [List.length_take, List.length_drop]; omega
        · intro i hi
          rw [List.length_take, List.length_drop] at hi
          rw [take_get0 _ _ _ (by omega), drop_get0, Nat.add_assoc, hd _ (by omega) (by omega), words_chunk all k i (by omega)]
      rw [g1, if_pos rfl, if_pos hsl]
      dsimp only
      unfold progF
      rw [g3, if_neg (by simp), if_neg (by omega), Int.toNat_natCast]
      have hmk : ∀ y : BitVec 32, Img (t.ws.set (p + 3 + k) y) p v all := fun y => img_mark k1.1 k hk y hd
      have get := fun i y => set_get0 t.ws (p + 3 + k) i y (by omega)
      by_cases hz : t.left = 0
      · rw [if_pos hz]
        refine .inr ⟨t.tore (t.ws.set (p + 3 + k) (t.ws.getD (p + 3 + k) 0#32 &&& (0#32 ||| ~~~t.mask))), rfl, rfl, ?_, by omega, by rw [tore_ws]; exact hmk _, fun j hj h0 => ?_⟩
        · rcases Int.lt_or_le s.left 0 with q | q
          · have := g5 q; omega
          · exact q
        · rw [tore_ws, get, Nat.add_assoc p 3 j]
          rw [Nat.add_assoc] at h0
          by_cases c : p + (3 + j) = p + 3 + k
          · exact absurd (by rw [← c]; exact h0) hm
          · rw [if_neg c, k1.2 _ (by omega)]; exact h0
      · rw [if_neg hz]
        refine .inl ⟨t.did (t.ws.set (p + 3 + k) (t.ws.getD (p + 3 + k) 0#32 &&& 0#32)), rfl, g3, fun q => ?_, ?_, by rw [did_ws]; exact hmk _, ?_, fun j hj hne => ?_⟩
        · show (if 0 < t.left then t.left - 1 else t.left) < 0
          have := g5 q
          rw [if_neg (by omega)]; exact this
        · show s.left - 17 ≤ (if 0 < t.left then t.left - 1 else t.left)
          split <;> omega
        · rw [did_ws, get, if_pos rfl, BitVec.and_zero]
        · rw [did_ws, get, if_neg (by omega), Nat.add_assoc, k1.2 _ (by omega)]
    · rw [g1, if_neg (show ¬ ((7 : Int) = 0) by decide)]
      have hyl : ((wordsF (chunkF all k)).take i ++ [(wordsF (chunkF all k)).getD i 0#32 ||| ~~~s.mask]).length = i + 1 := by
        rw [List.length_append, List.length_take, List.length_singleton]; omega
      have k1 := h.lay k hk hm ((wordsF (chunkF all k)).take i ++ [(wordsF (chunkF all k)).getD i 0#32 ||| ~~~s.mask]) (by rw [hyl]; omega) (fun j hj => by
        rw [hyl] at hj
        by_cases c : j < i
        · rw [app_getl _ _ _ (by rw [List.length_take]; omega), take_get0 _ _ _ c, words_chunk all k j (by omega), BitVec.and_assoc, BitVec.and_self]
          exact h.data _ (by omega)
        · rw [app_getr _ _ _ (by rw [List.length_take]; omega), List.length_take, show j - min i (wordsF (chunkF all k)).length = 0 by omega, show j = i by omega]
          show (_ &&& ((wordsF (chunkF all k)).getD i 0#32 ||| ~~~s.mask)) &&& _ = _
          rw [words_chunk all k i g2]
          exact and_idem3 _ _ (h.data _ (by omega)) _)
      rw [← g3] at k1
      refine .inr ⟨t, rfl, g4, g5, by omega, k1.1, fun j hj h0 => ?_⟩
      rw [Nat.add_assoc, k1.2 _ (by omega), ← Nat.add_assoc]; exact h0

/-- an image whose chunks are all there -/
theorem img_bytes {ws : List (BitVec 32)} {p : Nat} (h : Img ws p v all) (hall : allB ws p all.length 32 = true) : (bytesF (sliceF ws (p + 256) ((all.length + 3) / 4))).take all.length = all := by
  have hmany := h.many
  have hlen := h.len
  have e : sliceF ws (p + 256) ((all.length + 3) / 4) = wordsF all := by
    unfold sliceF
    apply ext0
    · rw [List.length_take, List.length_drop, wordsF_len]; omega
    · intro i hi
      rw [List.length_take, List.length_drop] at hi
      rw [take_get0 _ _ _ (by omega), drop_get0]
      have hm := allB_iff.1 hall (i / 16) (by omega) (by omega)
      refine h.mark (i / 16) (by omega) hm i (by omega) ?_
      rw [wordsF_len, chunkF_len]; unfold lenC; omega
  rw [e]
  exact bytes_words_take all
theorem img_whole (hs : s.off = false) (hb : ¬ badF slot) (h : Img s.ws (atF n slot) v all) :
    bytesSF s n slot = if allB s.ws (atF n slot) all.length 32 = true then (all, 0) else ([], 2) := by
  have e : wholeSF s n slot = if allB s.ws (atF n slot) all.length 32 = true then (all.length, 0) else (0, 2) := by
    unfold wholeSF haveW
    rw [check_ok hs hb, if_neg (by simp), h.head]
  unfold bytesSF
  rw [e]
  by_cases c : allB s.ws (atF n slot) all.length 32 = true
  · rw [if_pos c, if_pos rfl, if_pos c, img_bytes h c]
  · rw [if_neg c, if_neg (by decide), if_neg c]
theorem img_have (hs : s.off = false) (hb : ¬ badF slot) (h : Img s.ws (atF n slot) v all) : haveF s n slot = (haveB s.ws (atF n slot) all.length 32, allB s.ws (atF n slot) all.length 32) := by
  unfold haveF haveW
  rw [hs, if_neg (by simp [hb]), h.head]
end
end Go.Proofs.Ytgipackjnncabaa

/- Walks of layer 22, first part: slots, their words, laid, begun, dropped. -/
set_option linter.unusedVariables false
namespace Go.Proofs.Ytgipackjnncabaa
open Go.Vc Go.RowKit

/-- slots' cells -/
def sC (g n : Nat) : List Value := [.pointer (some ⟨g, 0, none⟩), .int .i64 n]
/-- two slots at block sb, on a flash -/
structure SlAt (B : Nat) (w : World) (sb g gw c n : Nat) (s : FS) : Prop where
  f : FlAt 181 B w g gw c s
  b : Blk w sb 162 (sC g n)
  n1 : sb ≠ g
  n2 : sb ≠ gw
  room : 256 * (n + 6) ≤ s.ws.length
  small : s.ws.length ≤ 65536
section
variable {B : Nat} {w w' : World} {sb g gw c n : Nat} {s t : FS}
theorem SlAt.ext (h : SlAt B w sb g gw c n s) (x : Ext w w') : SlAt B w' sb g gw c n s := ⟨h.f.ext x, h.b.ext x, h.n1, h.n2, h.room, h.small⟩
theorem SlAt.next (h : SlAt B w sb g gw c n s) (f : FlAt 181 B w' g gw c t) (m : FlMod g gw w w') (hl : t.ws.length = s.ws.length) : SlAt B w' sb g gw c n t :=
  ⟨f, m.keepBlk h.b (fun e => by rcases e with e | e; exact h.n1 e; exact h.n2 e), h.n1, h.n2, by rw [hl]; exact h.room, by rw [hl]; exact h.small⟩
end
theorem atF_le {n : Nat} {slot : Int} (hb : ¬ badF slot) {l : Nat} (h : 256 * (n + 6) ≤ l) : atF n slot + 768 ≤ l := by
  unfold atF
  unfold badF at hb
  omega

section
variable {B : Nat} {w : World} {sb g gw c n : Nat} {s : FS}
/-- check -/
theorem scheck_calls (h : SlAt B w sb g gw c n s) (slot : Int) : Calls Try.prog 171 #[.pointer (some ⟨sb, 0, none⟩), .int .i64 slot] w (Ret fun v w' => v = .int .i64 (checkF s slot) ∧ w' = w) := by
  refine calls_of_vc lok Try.func171 ?_ rfl
  conv => whnf
  refine vcReg_go lok ?_
  conv => whnf
  refine ⟨_, h.b.cell (i := 0) rfl, ?_⟩
  conv => whnf
  refine vcCond_false lok (rfl) ?_
  conv => whnf
  refine ⟨_, h.b.cell (i := 0) rfl, ?_⟩
  conv => whnf
  refine Calls.ret (fon_calls h.f) ?_
  rintro _ w1 ⟨rfl, rfl⟩
  conv => whnf
  unfold checkF
  refine vcCond_split lok rfl (fun h1 => ?_) (fun h1 => ?_)
  · rw [Bool.not_not] at h1
    rw [if_pos h1]
    conv => whnf
    exact ⟨rfl, rfl⟩
  rw [Bool.not_not] at h1
  rw [h1, if_neg Bool.false_ne_true]
  conv => whnf
  refine vcReg_meet lok (fun β : Bool => [(22, .bool β)]) (fun β w' => w' = w1 ∧ β = decide (badF slot)) [22] (fun _ => rfl) rfl ?_ ?_
  · conv => whnf
    refine bcase (fun k1 => ?_) (fun k1 => ?_)
    · have k1 := dt k1
      conv => whnf
      exact ⟨_, ⟨rfl, trivial⟩, rfl, (decide_eq_true (show badF slot from .inl k1)).symm⟩
    have k1 := df k1
    conv => whnf
    refine ⟨_, ⟨rfl, trivial⟩, rfl, ?_⟩
    rw [decide_eq_decide]
    exact ⟨fun e => .inr e, fun e => by rcases e with e | e; exact absurd e k1; exact e⟩
  rintro β w2 ⟨hw2, hβ⟩
  subst hw2
  conv => whnf
  refine vcCond_split lok rfl (fun h2 => ?_) (fun h2 => ?_)
  · rw [hβ] at h2
    rw [if_pos (dt h2)]
    conv => whnf
    exact ⟨rfl, rfl⟩
  · rw [hβ] at h2
    rw [if_neg (df h2)]
    conv => whnf
    exact ⟨rfl, rfl⟩

/-- canBe -/
theorem canBe_calls {w : World} (v : BitVec 32) (m : Int) : Calls Try.prog 172 #[.int .u32 v.toNat, .int .i64 m] w (Ret fun r w' => r = .bool (decide (canN v m)) ∧ w' = w) := by
  have hv0 : ((v.toNat : Int) = 0) ↔ v = 0#32 := num_zero
  have hv1 : ((v.toNat : Int) = 4294967295) ↔ v = ones := ones_eq
  refine calls_of_vc lok Try.func172 ?_ rfl
  conv => whnf
  refine vcReg_go lok ?_
  conv => whnf
  refine bcase (fun k1 => ?_) (fun k1 => ?_)
  rotate_left
  · have k1 := hv0.1 (ne_false k1)
    conv => whnf
    exact ⟨by rw [decide_eq_false (fun q : canN v m => q.1 k1)], rfl⟩
  have k1 := fun e => ne_true k1 (hv0.2 e)
  conv => whnf
  refine bcase (fun k2 => ?_) (fun k2 => ?_)
  rotate_left
  · have k2 := hv1.1 (ne_false k2)
    conv => whnf
    exact ⟨by rw [decide_eq_false (fun q : canN v m => q.2.1 k2)], rfl⟩
  have k2 := fun e => ne_true k2 (hv1.2 e)
  conv => whnf
  refine bcase (fun k3 => ?_) (fun k3 => ?_)
  rotate_left
  · have k3 := df k3
    conv => whnf
    exact ⟨by rw [decide_eq_false (fun q : canN v m => k3 q.2.2.1)], rfl⟩
  have k3 := dt k3
  conv => whnf
  refine ⟨?_, rfl⟩
  congr 1
  rw [decide_eq_decide]
  exact ⟨fun e => ⟨k1, k2, k3, e⟩, fun q => q.2.2.2⟩

/-- sector -/
theorem ssector_calls (h : SlAt B w sb g gw c n s) (slot : Int) (hb : ¬ badF slot) : Calls Try.prog 173 #[.pointer (some ⟨sb, 0, none⟩), .int .i64 slot] w (Ret fun v w' => v = .int .i64 (n + 3 * slot.toNat : Nat) ∧ w' = w) := by
  unfold badF at hb
  have hr := h.room
  have hm := h.small
  refine calls_of_vc lok Try.func173 ?_ rfl
  conv => whnf
  refine ⟨_, h.b.cell (i := 1) rfl, ?_⟩
  conv => whnf
  refine ⟨by omega, ?_⟩
  conv => whnf
  refine ⟨by omega, ?_⟩
  conv => whnf
  refine ⟨?_, rfl⟩
  congr 1
  omega

/-- a word of a slot -/
theorem sword_calls (h : SlAt B w sb g gw c n s) (slot : Int) (hb : ¬ badF slot) (hoff : s.off = false) (at_ : Nat) (hat : at_ < 768) (z : Int) (hz : z = at_) :
    Calls Try.prog 151 #[.pointer (some ⟨sb, 0, none⟩), .int .i64 slot, .int .i64 z] w (Ret fun v w' => v = .int .u32 (s.ws.getD (atF n slot + at_) 0#32).toNat ∧ Ext w w') := by
  subst hz
  have hr := h.room
  have hm := h.small
  have hp := atF_le hb hr
  have hpd : ((n + 3 * slot.toNat : Nat) : Int) * 256 = (atF n slot : Int) := by unfold atF; omega
  refine calls_of_vc lok Try.func151 ?_ rfl
  conv => whnf
  refine vcDraw_go lok mixed (Ext w) [6] [0, 1, 2, 3, 4, 5, 8, 6, 7, 9, 10, 11, 12, 13, 14, 15] (by kernel_rfl) (fun w1 hw1 => ⟨hw1 ▸ Ext.drew w, ?_⟩)
  have x1 : Ext w w1 := hw1 ▸ Ext.drew w
  clear hw1
  have hsb := h.b
  conv => whnf
  refine ⟨_, fun w' hw' => (hsb.ext hw').cell (i := 0) rfl, ?_⟩
  conv => whnf
  refine Calls.ret (ssector_calls (h.ext x1) slot hb) ?_
  rintro _ w2 ⟨rfl, hw2⟩
  subst hw2
  refine ⟨_, fun _ h => h, x1, ?_⟩
  conv => whnf
  refine ⟨by omega, ?_⟩
  conv => whnf
  refine ⟨by omega, ?_⟩
  conv => whnf
  rw [hpd, show (atF n slot : Int) + (at_ : Int) = ((atF n slot + at_ : Nat) : Int) by omega]
  have er : readF s ((atF n slot + at_ : Nat) : Int) = (s.ws.getD (atF n slot + at_) 0#32, 0) := by
    unfold readF
    rw [hoff, if_neg Bool.false_ne_true, if_neg (by omega), Int.toNat_natCast]
  have g3 := read_calls (h.f.ext x1) ((atF n slot + at_ : Nat) : Int)
  rw [er] at g3
  refine Calls.ret (g3) ?_
  rintro _ w3 ⟨rfl, hw3⟩
  conv => whnf
  subst hw3
  exact ⟨rfl, x1⟩
end
end Go.Proofs.Ytgipackjnncabaa
