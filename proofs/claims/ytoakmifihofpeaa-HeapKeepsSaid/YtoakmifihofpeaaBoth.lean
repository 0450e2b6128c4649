/- The two heaps, side by side: what each call makes of them, and that they answer alike. No program here. -/
import Derived.Test.YtoakmifihofpeaaW6
set_option linter.unusedVariables false
set_option linter.unusedSimpArgs false
namespace Go.Proofs.Ytoakmifihofpeaa
open Go.RowKit
structure Both (q : QH) (r : RH) : Prop where
  tk : q.tk = r.tk
  ok : q.Ok
  lay : ∀ k k', k < k' → k' < r.N → r.ad k + r.nn k < r.ad k'
  rng : ∀ k, k < r.N → 1 ≤ r.ad k ∧ 0 ≤ r.nn k ∧ r.ad k + r.nn k ≤ r.tk
  sz : ∀ k, k < r.N → q.sz (r.ad k) = some (r.nn k)
  no : ∀ a, (∀ k, k < r.N → r.ad k ≠ a) → q.sz a = none
  wd : ∀ k, k < r.N → ∀ i, 0 ≤ i → i < r.nn k → (q.wd (r.ad k + 1 + i)).getD 0 = r.word k i
  fresh : ∀ a, q.tk < a → q.wd a = none
  valid : RValid r
theorem Both.sorted {q : QH} {r : RH} (h : Both q r) : Sorted r := fun k k' hk hk' => by
  have h1 := h.lay k k' hk hk'
  have h2 := h.rng k (by omega)
  omega
theorem Both.empty : Both QH.empty RH.empty :=
  ⟨rfl, QH.Ok.empty, fun k k' _ h => absurd h (Nat.not_lt_zero _), fun k h => absurd h (Nat.not_lt_zero _), fun k h => absurd h (Nat.not_lt_zero _), fun _ _ => rfl, fun k h => absurd h (Nat.not_lt_zero _), fun _ _ => rfl,
    ⟨fun k h => absurd h (Nat.not_lt_zero _), fun k h => absurd h (Nat.not_lt_zero _)⟩⟩
theorem push_ad_old (r : RH) (a n : Int) {k : Nat} (h : k < r.N) : (r.push a n).ad k = r.ad k := by simp only [RH.push, if_neg (show ¬ k = r.N by omega)]
theorem push_nn_old (r : RH) (a n : Int) {k : Nat} (h : k < r.N) : (r.push a n).nn k = r.nn k := by simp only [RH.push, if_neg (show ¬ k = r.N by omega)]
theorem push_X_old (r : RH) (a n : Int) {k : Nat} (h : k < r.N) (j : Nat) : (r.push a n).X k j = r.X k j := by simp only [RH.push, if_neg (show ¬ k = r.N by omega)]
theorem push_ad_new (r : RH) (a n : Int) : (r.push a n).ad r.N = a := by simp [RH.push]
theorem push_nn_new (r : RH) (a n : Int) : (r.push a n).nn r.N = n := by simp [RH.push]
theorem push_X_new (r : RH) (a n : Int) (j : Nat) : (r.push a n).X r.N j = [] := by simp [RH.push]
theorem word_congr {r r' : RH} {k : Nat} (h0 : r.X k 0 = r'.X k 0) (h1 : r.X k 1 = r'.X k 1) (h2 : r.X k 2 = r'.X k 2) (i : Int) : r.word k i = r'.word k i := by rw [RH.word, RH.word, h0, h1, h2]
theorem Both.make {q : QH} {r : RH} (h : Both q r) (n : Int) : Both (q.make n) (r.make n) := by
  have hok := h.ok.make n
  unfold QH.make at hok ⊢
  unfold RH.make
  rw [← h.tk] at *
  by_cases hf : fitsB q.tk n = true
  · rw [if_pos hf] at hok ⊢
    rw [if_pos hf]
    rw [fitsB_iff] at hf
    obtain ⟨o1, o2, o3⟩ := h.ok
    have hN : ((r.push (q.tk + 1) n).took (q.tk + n + 1)).N = r.N + 1 := rfl
    have hrng := h.rng
    rw [← h.tk] at hrng
    refine ⟨rfl, hok, ?_, ?_, ?_, ?_, ?_, ?_, ?_⟩
    · intro k k' hk hk'
      rw [hN] at hk'
      show (r.push (q.tk + 1) n).ad k + (r.push (q.tk + 1) n).nn k < (r.push (q.tk + 1) n).ad k'
      rw [push_ad_old _ _ _ (show k < r.N by omega), push_nn_old _ _ _ (show k < r.N by omega)]
      by_cases he : k' = r.N
      · rw [he, push_ad_new]
        have := hrng k (by omega)
        omega
      · rw [push_ad_old _ _ _ (show k' < r.N by omega)]
        exact h.lay k k' hk (by omega)
    · intro k hk
      rw [hN] at hk
      show 1 ≤ (r.push (q.tk + 1) n).ad k ∧ 0 ≤ (r.push (q.tk + 1) n).nn k ∧ (r.push (q.tk + 1) n).ad k + (r.push (q.tk + 1) n).nn k ≤ q.tk + n + 1
      by_cases he : k = r.N
      · rw [he, push_ad_new, push_nn_new]; omega
      · rw [push_ad_old _ _ _ (show k < r.N by omega), push_nn_old _ _ _ (show k < r.N by omega)]
        have := hrng k (by omega)
        omega
    · intro k hk
      rw [hN] at hk
      show upd q.sz (q.tk + 1) n ((r.push (q.tk + 1) n).ad k) = some ((r.push (q.tk + 1) n).nn k)
      by_cases he : k = r.N
      · rw [he, push_ad_new, push_nn_new]; simp [upd]
      · rw [push_ad_old _ _ _ (show k < r.N by omega), push_nn_old _ _ _ (show k < r.N by omega)]
        have := hrng k (by omega)
        rw [upd, if_neg (by omega)]
        exact h.sz k (by omega)
    · intro a ha
      have h1 := ha r.N (by rw [hN]; omega)
      have h1' : q.tk + 1 ≠ a := by
        have e : ((r.push (q.tk + 1) n).took (q.tk + n + 1)).ad r.N = q.tk + 1 := push_ad_new r (q.tk + 1) n
        rw [e] at h1; exact h1
      show upd q.sz (q.tk + 1) n a = none
      rw [upd, if_neg (fun e => h1' e.symm)]
      refine h.no a fun k hk => ?_
      have h2 := ha k (by rw [hN]; omega)
      have e : ((r.push (q.tk + 1) n).took (q.tk + n + 1)).ad k = r.ad k := push_ad_old r (q.tk + 1) n hk
      rw [e] at h2; exact h2
    · intro k hk i hi0 hi1
      rw [hN] at hk
      by_cases he : k = r.N
      · subst he
        have e1 : ((r.push (q.tk + 1) n).took (q.tk + n + 1)).ad r.N = q.tk + 1 := push_ad_new r (q.tk + 1) n
        have e2 : ((r.push (q.tk + 1) n).took (q.tk + n + 1)).word r.N i = 0 := by
          have x0 : ((r.push (q.tk + 1) n).took (q.tk + n + 1)).X r.N 0 = [] := push_X_new r (q.tk + 1) n _
          have x1 : ((r.push (q.tk + 1) n).took (q.tk + n + 1)).X r.N 1 = [] := push_X_new r (q.tk + 1) n _
          have x2 : ((r.push (q.tk + 1) n).took (q.tk + n + 1)).X r.N 2 = [] := push_X_new r (q.tk + 1) n _
          rw [RH.word, x0, x1, x2]
          split <;> simp [flook]
        rw [e1, e2]
        show (q.wd (q.tk + 1 + 1 + i)).getD 0 = 0
        rw [h.fresh _ (by omega)]
        rfl
      · have hk' : k < r.N := by omega
        have e1 : ((r.push (q.tk + 1) n).took (q.tk + n + 1)).ad k = r.ad k := push_ad_old r (q.tk + 1) n hk'
        have e2 : ((r.push (q.tk + 1) n).took (q.tk + n + 1)).nn k = r.nn k := push_nn_old r (q.tk + 1) n hk'
        have e3 : ((r.push (q.tk + 1) n).took (q.tk + n + 1)).word k i = r.word k i := word_congr (push_X_old r (q.tk + 1) n hk' 0) (push_X_old r (q.tk + 1) n hk' 1) (push_X_old r (q.tk + 1) n hk' 2) i
        rw [e2] at hi1
        rw [e1, e3]
        exact h.wd k hk' i hi0 hi1
    · intro a ha
      exact h.fresh a (by have ha' : q.tk + n + 1 < a := ha; omega)
    · constructor
      · intro k hk
        rw [hN] at hk
        show ((r.push (q.tk + 1) n).X k 0).length ≤ 4096
        by_cases he : k = r.N
        · rw [he, push_X_new]; simp
        · rw [push_X_old _ _ _ (show k < r.N by omega)]; exact h.valid.near k (by omega)
      · intro k hk
        rw [hN] at hk
        show ((r.push (q.tk + 1) n).X k 1).length = ((r.push (q.tk + 1) n).X k 2).length
        by_cases he : k = r.N
        · rw [he, push_X_new, push_X_new]
        · rw [push_X_old _ _ _ (show k < r.N by omega), push_X_old _ _ _ (show k < r.N by omega)]; exact h.valid.far k (by omega)
  · rw [if_neg hf] at hok ⊢
    rw [if_neg hf]
    exact h
/-! Len, Get: one answer. -/
theorem Both.len_post {q : QH} {r : RH} (h : Both q r) {a : Int} {w w' : World} {e : Ending} (hp : RLenPost r a w e w') : w = w' ∧ e = .returned (.tuple #[.int .i64 (q.lenA a), .bool (q.lenB a)]) := by
  obtain ⟨rfl, h1 | ⟨h0, ⟨k, hk, hka, rfl⟩ | ⟨hno, rfl⟩⟩⟩ := hp
  · obtain ⟨rfl, rfl⟩ := h1
    exact ⟨rfl, by rw [QH.lenA, QH.lenB, if_pos rfl, if_pos rfl]⟩
  · refine ⟨rfl, ?_⟩
    rw [QH.lenA, QH.lenB, if_neg h0, if_neg h0, ← hka, h.sz k hk]
    rfl
  · refine ⟨rfl, ?_⟩
    rw [QH.lenA, QH.lenB, if_neg h0, if_neg h0, h.no a hno]
    rfl
theorem Both.has_yes {q : QH} {r : RH} (h : Both q r) {k : Nat} (hk : k < r.N) (i : Int) : q.has (r.ad k) i = decide (0 ≤ i ∧ i < r.nn k) := by rw [QH.has, h.sz k hk]
theorem Both.has_no {q : QH} {r : RH} (h : Both q r) {a i : Int} (hn : ∀ k, k < r.N → r.ad k = a → ¬ (0 ≤ i ∧ i < r.nn k)) : q.has a i = false := by
  by_cases he : ∃ k, k < r.N ∧ r.ad k = a
  · obtain ⟨k, hk, rfl⟩ := he
    rw [h.has_yes hk]
    exact decide_eq_false (hn k hk rfl)
  · rw [QH.has, h.no a (fun k hk e => he ⟨k, hk, e⟩)]
theorem Both.get_post {q : QH} {r : RH} (h : Both q r) {a i : Int} {w w' : World} {e : Ending} (hp : RGetPost r a i w e w') : w = w' ∧ e = .returned (.tuple #[.int .i64 (q.getA a i), .bool (q.has a i)]) := by
  obtain ⟨rfl, ⟨k, hk, rfl, hi0, hi1, rfl⟩ | ⟨hn, rfl⟩⟩ := hp
  · have hh : q.has (r.ad k) i = true := by rw [h.has_yes hk]; exact decide_eq_true ⟨hi0, hi1⟩
    refine ⟨rfl, ?_⟩
    rw [QH.getA, if_pos hh, hh, h.wd k hk i hi0 hi1]
  · have hh := h.has_no hn
    refine ⟨rfl, ?_⟩
    rw [QH.getA, hh]
    rfl
/-! Set. -/
theorem getD_set (l : List Int) (t s : Nat) (x : Int) (h : t < l.length) : (l.set t x).getD s 0 = if s = t then x else l.getD s 0 := by
  rw [List.getD_eq_getElem?_getD, List.getElem?_set, List.getD_eq_getElem?_getD]
  by_cases e : t = s
  · subst e; simp [h]
  · rw [if_neg e, if_neg (fun e' => e e'.symm)]
theorem getD_pad (l : List Int) (m s : Nat) : (l ++ List.replicate m 0).getD s 0 = l.getD s 0 := by
  rw [List.getD_eq_getElem?_getD, List.getD_eq_getElem?_getD]
  by_cases h : s < l.length
  · rw [List.getElem?_append_left h]
  · rw [List.getElem?_append_right (by omega), List.getElem?_replicate, List.getElem?_eq_none (show l.length ≤ s by omega)]
    split <;> rfl
theorem flook_set : ∀ (at_ far : List Int) (i j x : Int), fpos at_ i < at_.length → at_.length = far.length → flook at_ (far.set (fpos at_ i) x) j = if j = i then x else flook at_ far j
  | [], _, _, _, _, h, _ => by simp [fpos] at h
  | _ :: _, [], _, _, _, _, h => by simp at h
  | y :: at_, z :: far, i, j, x, h, hl => by
    by_cases he : y = i
    · have e : fpos (y :: at_) i = 0 := by simp [fpos, he]
      rw [e]
      simp only [List.set_cons_zero, flook]
      by_cases hj : y = j
      · rw [if_pos hj, if_pos (by omega)]
      · rw [if_neg hj, if_neg hj, if_neg (by omega)]
    · have e : fpos (y :: at_) i = fpos at_ i + 1 := by simp [fpos, he]
      rw [e] at h ⊢
      simp only [List.set_cons_succ, flook]
      have ih := flook_set at_ far i j x (by simpa using h) (by simpa using hl)
      by_cases hj : y = j
      · rw [if_pos hj, if_pos hj, if_neg (by omega)]
      · rw [if_neg hj, if_neg hj]; exact ih
theorem flook_app : ∀ (at_ far : List Int) (i j x : Int), ¬ fpos at_ i < at_.length → at_.length = far.length → flook (at_ ++ [i]) (far ++ [x]) j = if j = i then x else flook at_ far j
  | [], [], i, j, x, _, _ => by
    simp only [List.nil_append, flook]
    by_cases h : i = j
    · rw [if_pos h, if_pos h.symm]
    · rw [if_neg h, if_neg (fun e => h e.symm)]
  | [], _ :: _, _, _, _, _, h => by simp at h
  | _ :: _, [], _, _, _, _, h => by simp at h
  | y :: at_, z :: far, i, j, x, h, hl => by
    have he : y ≠ i := fun e => h (by simp [fpos, e])
    have e : fpos (y :: at_) i = fpos at_ i + 1 := by simp [fpos, he]
    rw [e] at h
    simp only [List.cons_append, flook]
    have ih := flook_app at_ far i j x (by simpa using h) (by simpa using hl)
    by_cases hj : y = j
    · rw [if_pos hj, if_pos hj, if_neg (by omega)]
    · rw [if_neg hj, if_neg hj]; exact ih
theorem setX_word_other (r : RH) (k j : Nat) (l : List Int) {k' : Nat} (h : k' ≠ k) (i : Int) : (r.setX k j l).word k' i = r.word k' i :=
  word_congr (upd2_other _ _ _ _ (fun e => h e.1)) (upd2_other _ _ _ _ (fun e => h e.1)) (upd2_other _ _ _ _ (fun e => h e.1)) i
/-- What a heap must still be where only one block's words have turned. -/
theorem Both.turned {q : QH} {r r' : RH} (h : Both q r) {k : Nat} (hk : k < r.N) {i x : Int} (hi0 : 0 ≤ i) (hi1 : i < r.nn k) (hN : r'.N = r.N) (had : r'.ad = r.ad) (hnn : r'.nn = r.nn) (htk : r'.tk = r.tk)
    (hw : ∀ k', k' ≠ k → ∀ j, r'.word k' j = r.word k' j) (hw2 : ∀ j, 0 ≤ j → r'.word k j = if j = i then x else r.word k j) (hv : RValid r') : Both (q.set (r.ad k) i x) r' := by
  have hh : q.has (r.ad k) i = true := by rw [h.has_yes hk]; exact decide_eq_true ⟨hi0, hi1⟩
  have hok := h.ok.set (r.ad k) i x
  unfold QH.set at hok ⊢
  rw [if_pos hh] at hok ⊢
  refine ⟨by rw [htk]; exact h.tk, hok, by rw [hN, had, hnn]; exact h.lay, by rw [hN, had, hnn, htk]; exact h.rng, by rw [hN, had, hnn]; exact h.sz, by rw [hN, had]; exact h.no, ?_, ?_, hv⟩
  · intro k' hk' j hj0 hj1
    rw [hN] at hk'
    rw [hnn] at hj1
    rw [had]
    show (upd q.wd (r.ad k + 1 + i) x (r.ad k' + 1 + j)).getD 0 = _
    by_cases he : k' = k
    · subst he
      rw [hw2 j hj0, upd]
      by_cases hj : j = i
      · rw [if_pos (by rw [hj]), if_pos hj]; rfl
      · rw [if_neg (by omega), if_neg hj]
        exact h.wd k' hk' j hj0 hj1
    · rw [hw k' he, upd, if_neg, h.wd k' hk' j hj0 hj1]
      have h1 := h.rng k hk
      have h2 := h.rng k' hk'
      rcases Nat.lt_or_ge k' k with h3 | h3
      · have := h.lay k' k h3 hk; omega
      · have := h.lay k k' (by omega) hk'; omega
  · intro a ha
    show upd q.wd (r.ad k + 1 + i) x a = none
    have h1 := h.rng k hk
    have h2 := h.tk
    have ha' : q.tk < a := ha
    rw [upd, if_neg (by omega)]
    exact h.fresh a ha
theorem Both.setNear {q : QH} {r : RH} (h : Both q r) {k : Nat} (hk : k < r.N) {i x : Int} (hi0 : 0 ≤ i) (hi1 : i < r.nn k) (hn : i < 4096) : Both (q.set (r.ad k) i x) (r.setNear k i.toNat x) := by
  have hX0 : (r.setNear k i.toNat x).X k 0 = (r.X k 0 ++ List.replicate (i.toNat + 1 - (r.X k 0).length) 0).set i.toNat x := upd2_same _ _ _ _
  have hX1 : (r.setNear k i.toNat x).X k 1 = r.X k 1 := upd2_other _ _ _ _ (by omega)
  have hX2 : (r.setNear k i.toNat x).X k 2 = r.X k 2 := upd2_other _ _ _ _ (by omega)
  have hnear := h.valid.near k hk
  refine h.turned hk hi0 hi1 rfl rfl rfl rfl (fun k' hk' j => setX_word_other r k 0 _ hk' j) (fun j hj0 => ?_) ⟨fun k' hk' => ?_, fun k' hk' => ?_⟩
  · rw [RH.word, RH.word, hX0, hX1, hX2]
    by_cases hj : j < 4096
    · rw [if_pos hj, if_pos hj, getD_set _ _ _ _ (by simp; omega), getD_pad]
      by_cases e : j = i
      · rw [if_pos (by rw [e]), if_pos e]
      · rw [if_neg (by omega), if_neg e]
    · rw [if_neg hj, if_neg hj, if_neg (by omega)]
  · by_cases e : k' = k
    · subst e; rw [hX0]; simp; omega
    · have : (r.setNear k i.toNat x).X k' 0 = r.X k' 0 := upd2_other _ _ _ _ (by omega)
      rw [this]; exact h.valid.near k' hk'
  · have e1 : (r.setNear k i.toNat x).X k' 1 = r.X k' 1 := upd2_other _ _ _ _ (by omega)
    have e2 : (r.setNear k i.toNat x).X k' 2 = r.X k' 2 := upd2_other _ _ _ _ (by omega)
    rw [e1, e2]; exact h.valid.far k' hk'
theorem Both.setFar {q : QH} {r : RH} (h : Both q r) {k : Nat} (hk : k < r.N) {i x : Int} (hi1 : i < r.nn k) (hn : 4096 ≤ i) : Both (q.set (r.ad k) i x) (r.setFar k i x) := by
  have hfar := h.valid.far k hk
  unfold RH.setFar
  by_cases hp : fpos (r.X k 1) i < (r.X k 1).length
  · rw [if_pos hp]
    have hX0 : (r.setX k 2 ((r.X k 2).set (fpos (r.X k 1) i) x)).X k 0 = r.X k 0 := upd2_other _ _ _ _ (by omega)
    have hX1 : (r.setX k 2 ((r.X k 2).set (fpos (r.X k 1) i) x)).X k 1 = r.X k 1 := upd2_other _ _ _ _ (by omega)
    have hX2 : (r.setX k 2 ((r.X k 2).set (fpos (r.X k 1) i) x)).X k 2 = (r.X k 2).set (fpos (r.X k 1) i) x := upd2_same _ _ _ _
    refine h.turned hk (by omega) hi1 rfl rfl rfl rfl (fun k' hk' j => setX_word_other r k 2 _ hk' j) (fun j hj0 => ?_) ⟨fun k' hk' => ?_, fun k' hk' => ?_⟩
    · rw [RH.word, RH.word, hX0, hX1, hX2]
      by_cases hj : j < 4096
      · rw [if_pos hj, if_pos hj, if_neg (by omega)]
      · rw [if_neg hj, if_neg hj, flook_set _ _ _ _ _ hp hfar]
    · have : (r.setX k 2 ((r.X k 2).set (fpos (r.X k 1) i) x)).X k' 0 = r.X k' 0 := upd2_other _ _ _ _ (by omega)
      rw [this]; exact h.valid.near k' hk'
    · by_cases e : k' = k
      · subst e; rw [hX1, hX2, List.length_set]; exact hfar
      · have e1 : (r.setX k 2 ((r.X k 2).set (fpos (r.X k 1) i) x)).X k' 1 = r.X k' 1 := upd2_other _ _ _ _ (by omega)
        have e2 : (r.setX k 2 ((r.X k 2).set (fpos (r.X k 1) i) x)).X k' 2 = r.X k' 2 := upd2_other _ _ _ _ (by omega)
        rw [e1, e2]; exact h.valid.far k' hk'
  · rw [if_neg hp]
    have hX0 : ((r.setX k 1 (r.X k 1 ++ [i])).setX k 2 (r.X k 2 ++ [x])).X k 0 = r.X k 0 := (upd2_other _ _ _ _ (by omega)).trans (upd2_other _ _ _ _ (by omega))
    have hX1 : ((r.setX k 1 (r.X k 1 ++ [i])).setX k 2 (r.X k 2 ++ [x])).X k 1 = r.X k 1 ++ [i] := (upd2_other _ _ _ _ (by omega)).trans (upd2_same _ _ _ _)
    have hX2 : ((r.setX k 1 (r.X k 1 ++ [i])).setX k 2 (r.X k 2 ++ [x])).X k 2 = r.X k 2 ++ [x] := upd2_same _ _ _ _
    refine h.turned hk (by omega) hi1 rfl rfl rfl rfl (fun k' hk' j => (setX_word_other _ k 2 _ hk' j).trans (setX_word_other r k 1 _ hk' j)) (fun j hj0 => ?_) ⟨fun k' hk' => ?_, fun k' hk' => ?_⟩
    · rw [RH.word, RH.word, hX0, hX1, hX2]
      by_cases hj : j < 4096
      · rw [if_pos hj, if_pos hj, if_neg (by omega)]
      · rw [if_neg hj, if_neg hj, flook_app _ _ _ _ _ hp hfar]
    · have : ((r.setX k 1 (r.X k 1 ++ [i])).setX k 2 (r.X k 2 ++ [x])).X k' 0 = r.X k' 0 := (upd2_other _ _ _ _ (by omega)).trans (upd2_other _ _ _ _ (by omega))
      rw [this]; exact h.valid.near k' hk'
    · by_cases e : k' = k
      · subst e; rw [hX1, hX2, List.length_append, List.length_append, hfar]; rfl
      · have e1 : ((r.setX k 1 (r.X k 1 ++ [i])).setX k 2 (r.X k 2 ++ [x])).X k' 1 = r.X k' 1 := (upd2_other _ _ _ _ (by omega)).trans (upd2_other _ _ _ _ (by omega))
        have e2 : ((r.setX k 1 (r.X k 1 ++ [i])).setX k 2 (r.X k 2 ++ [x])).X k' 2 = r.X k' 2 := (upd2_other _ _ _ _ (by omega)).trans (upd2_other _ _ _ _ (by omega))
        rw [e1, e2]; exact h.valid.far k' hk'
end Go.Proofs.Ytoakmifihofpeaa
