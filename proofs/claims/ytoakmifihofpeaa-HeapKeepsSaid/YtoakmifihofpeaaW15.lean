/- HeapKeeps: the blocks that were made, the words that were put; where they stand. -/
import Derived.Test.YtoakmifihofpeaaW14
import Derived.Test.YtoakmifihofpeaaLists
set_option linter.unusedVariables false
set_option linter.unusedSimpArgs false
namespace Go.Proofs.Ytoakmifihofpeaa
open Go.RowKit
structure Kept (q : QH) (N : Nat) (ad : Nat → Int) (X : Nat → List Int) : Prop where
  ok : q.Ok
  sz : ∀ k, k < N → q.sz (ad k) = some ((X k).length : Int)
  no : ∀ a, (∀ k, k < N → ad k ≠ a) → q.sz a = none
  lay : ∀ k k', k < k' → k' < N → ad k + (X k).length < ad k'
  rng : ∀ k, k < N → 1 ≤ ad k ∧ ad k + (X k).length ≤ q.tk
  wd : ∀ k, k < N → ∀ i : Nat, i < (X k).length → (q.wd (ad k + 1 + i)).getD 0 = (X k).getD i 0
  fresh : ∀ a, q.tk < a → q.wd a = none
theorem Kept.empty (ad : Nat → Int) (X : Nat → List Int) : Kept QH.empty 0 ad X :=
  ⟨QH.Ok.empty, fun k h => absurd h (Nat.not_lt_zero _), fun _ _ => rfl, fun k k' _ h => absurd h (Nat.not_lt_zero _), fun k h => absurd h (Nat.not_lt_zero _), fun k h => absurd h (Nat.not_lt_zero _), fun _ _ => rfl⟩
theorem Kept.make {q : QH} {N : Nat} {ad : Nat → Int} {X : Nat → List Int} (h : Kept q N ad X) (n : Nat) (hn : (n : Int) < 4611686018427387904 - q.tk) : Kept (q.make n) (N + 1) (updf ad N (q.tk + 1)) (updf X N (List.replicate n 0)) := by
  have hok := h.ok.make (n : Int)
  rw [make_of ⟨by omega, hn⟩] at hok ⊢
  have hq := h.ok.1
  have hrng := h.rng
  have a1 (k : Nat) (hk : k ≠ N) : updf ad N (q.tk + 1) k = ad k := updf_other _ _ _ hk
  have a2 (k : Nat) (hk : k ≠ N) : updf X N (List.replicate n 0) k = X k := updf_other _ _ _ hk
  have a3 : updf ad N (q.tk + 1) N = q.tk + 1 := updf_same _ _ _
  have a4 : updf X N (List.replicate n 0) N = List.replicate n 0 := updf_same _ _ _
  refine ⟨hok, fun k hk => ?_, fun a ha => ?_, fun k k' hk hk' => ?_, fun k hk => ?_, fun k hk i hi => ?_, fun a ha => ?_⟩
  · by_cases he : k = N
    · subst he; rw [a3, a4]; simp [upd]
    · rw [a1 k he, a2 k he]
      have := hrng k (by omega)
      show upd q.sz (q.tk + 1) n (ad k) = _
      rw [upd, if_neg (by omega)]
      exact h.sz k (by omega)
  · have h1 := ha N (by omega)
    rw [a3] at h1
    show upd q.sz (q.tk + 1) n a = none
    rw [upd, if_neg (fun e => h1 e.symm)]
    refine h.no a fun k hk => ?_
    have h2 := ha k (by omega)
    rwa [a1 k (by omega)] at h2
  · rw [a1 k (by omega), a2 k (by omega)]
    by_cases he : k' = N
    · subst he
      rw [a3]
      have := hrng k (by omega)
      omega
    · rw [a1 k' he]; exact h.lay k k' hk (by omega)
  · show _ ∧ _ ≤ q.tk + n + 1
    by_cases he : k = N
    · subst he; rw [a3, a4]; simp; omega
    · rw [a1 k he, a2 k he]
      have := hrng k (by omega)
      omega
  · show (q.wd _).getD 0 = _
    by_cases he : k = N
    · subst he
      rw [a4] at hi ⊢
      rw [a3, h.fresh _ (by omega)]
      simp at hi
      simp [List.getD_eq_getElem?_getD, hi]
    · rw [a1 k he]
      rw [a2 k he] at hi ⊢
      exact h.wd k (by omega) i hi
  · exact h.fresh a (by have ha' : q.tk + n + 1 < a := ha; omega)
theorem Kept.has {q : QH} {N : Nat} {ad : Nat → Int} {X : Nat → List Int} (h : Kept q N ad X) {k : Nat} (hk : k < N) (i : Int) : q.has (ad k) i = decide (0 ≤ i ∧ i < (X k).length) := by rw [QH.has, h.sz k hk]
theorem Kept.set {q : QH} {N : Nat} {ad : Nat → Int} {X : Nat → List Int} (h : Kept q N ad X) {k : Nat} (hk : k < N) (i : Nat) (x : Int) (hi : i < (X k).length) : Kept (q.set (ad k) i x) N ad (updf X k ((X k).set i x)) := by
  have hh : q.has (ad k) i = true := by rw [h.has hk]; exact decide_eq_true ⟨by omega, by omega⟩
  have hlen (j : Nat) : (updf X k ((X k).set i x) j).length = (X j).length := by
    by_cases he : j = k
    · subst he; rw [updf_same, List.length_set]
    · rw [updf_other _ _ _ he]
  have hok := h.ok.set_ (ad k) i x
  have hs : q.set (ad k) i x = ⟨q.sz, upd q.wd (ad k + 1 + i) x, q.tk⟩ := by rw [QH.set, if_pos hh]
  rw [hs] at hok ⊢
  refine ⟨hok, fun j hj => ?_, h.no, fun j j' hj hj' => ?_, fun j hj => ?_, fun j hj m hm => ?_, fun a ha => ?_⟩
  · rw [hlen]; exact h.sz j hj
  · rw [hlen]; exact h.lay j j' hj hj'
  · rw [hlen]; exact h.rng j hj
  · rw [hlen] at hm
    show (upd q.wd (ad k + 1 + i) x (ad j + 1 + m)).getD 0 = _
    by_cases he : j = k
    · subst he
      rw [updf_same, getD_set _ _ _ _ hi]
      by_cases hm2 : m = i
      · subst hm2; simp [upd]
      · rw [upd, if_neg (by omega), if_neg hm2]; exact h.wd j hj m hm
    · rw [updf_other _ _ _ he, upd, if_neg]
      · exact h.wd j hj m hm
      · intro e
        rcases Nat.lt_or_gt_of_ne he with hlt | hgt
        · have := h.lay j k hlt hk; omega
        · have := h.lay k j hgt hj; omega
  · show upd q.wd (ad k + 1 + i) x a = none
    have := h.rng k hk
    have ha' : q.tk < a := ha
    rw [upd, if_neg (by omega)]
    exact h.fresh a ha
theorem Kept.inner {q : QH} {N : Nat} {ad : Nat → Int} {X : Nat → List Int} (h : Kept q N ad X) {k : Nat} (hk : k < N) (i : Int) (h1 : 1 ≤ i) (h2 : i ≤ (X k).length) : q.sz (ad k + i) = none := by
  refine h.no _ fun j hj e => ?_
  rcases Nat.lt_trichotomy j k with hl | hl | hl
  · have := h.lay j k hl hk; omega
  · subst hl; omega
  · have := h.lay k j hl hj; omega
/-- The heap, the addresses, the words: where they stand. -/
structure KP (w wr : World) (g c : Nat) (va vw : Value) (q : QH) (N : Nat) (ad : Nat → Int) (X : Nat → List Int) (V : Nat → Value) (FH FA FW : Nat → Prop) : Prop where
  below : Below w.heap.size w wr
  hp : HeapAt wr FH g c q
  ad_ : Row wr FA 3 1 va N (nums ((List.range N).map ad))
  wt : LL wr FW 32 vw N V X
  kept : Kept q N ad X
  bH : ∀ b, FH b → w.heap.size ≤ b ∧ b < wr.heap.size
  bA : ∀ b, FA b → w.heap.size ≤ b ∧ b < wr.heap.size
  bW : ∀ b, FW b → w.heap.size ≤ b ∧ b < wr.heap.size
  d1 : ∀ b, FH b → ¬ FA b ∧ ¬ FW b
  d2 : ∀ b, FA b → ¬ FW b
  lens : ∀ k, k < N → (X k).length < 50
  tk : q.tk ≤ 50 * (N : Int)
theorem ads_push (ad : Nat → Int) (N : Nat) (a : Int) : nums ((List.range N).map ad) ++ [.int .i64 a] = nums ((List.range (N + 1)).map (updf ad N a)) := by
  rw [show [Value.int .i64 a] = nums [a] from rfl, nums_append]
  congr 1
  rw [List.range_succ, List.map_append]
  congr 1
  · apply List.map_congr_left
    intro b hb
    rw [updf_other]
    have := List.mem_range.1 hb
    omega
  · simp [updf]
/-- A block more. -/
theorem KP.round {w wr w1 w3 w6 : World} {g c : Nat} {va vw va1 vw1 : Value} {q : QH} {N : Nat} {ad : Nat → Int} {X : Nat → List Int} {V : Nat → Value} {FH FA FW : Nat → Prop} (h : KP w wr g c va vw q N ad X V FH FA FW) (n : Nat) (hn : n < 50) (hN : N < 200)
    (hh : HeapAt w1 FH g (c + 1) (q.make n)) (o1 : Only FH wr w1) {oa ow : Obj}
    (e3 : w3.ownsRow 0 3 1 va1 (N + 1) (nums ((List.range N).map ad) ++ [.int .i64 (q.tk + 1)])) (g3 : (w1.alloc oa).grownBy w3 va.ownBlock) (t3 : va1.ownBlock = va.ownBlock ∨ ∃ b, va1.ownBlock = some b ∧ w1.heap.size ≤ b)
    {cs : Array Value} (hcs : cs.toList = nums (List.replicate n 0))
    (e6 : w6.ownsRow 0 32 1 vw1 (N + 1) (heads N V ++ [.slice (some ⟨w3.heap.size, 0, none⟩) n n])) (g6 : ((w3.alloc (.cells cs 3)).alloc ow).grownBy w6 vw.ownBlock) (t6 : vw1.ownBlock = vw.ownBlock ∨ ∃ b, vw1.ownBlock = some b ∧ w3.heap.size + 1 ≤ b) :
    KP w w6 g (c + 1) va1 vw1 (q.make n) (N + 1) (updf ad N (q.tk + 1)) (updf X N (List.replicate n 0)) (updf V N (.slice (some ⟨w3.heap.size, 0, none⟩) n n)) FH (fun b => FA b ∨ va1.ownBlock = some b) (fun b => FW b ∨ b = w3.heap.size ∨ vw1.ownBlock = some b) := by
  have hB := h.below.size
  have s1 := o1.size
  have hva (b : Nat) (hb : va.ownBlock = some b) : FA b := h.ad_.2 b hb
  have hvw (b : Nat) (hb : vw.ownBlock = some b) : FW b := h.wt.row.2 b hb
  have o3 : Only (fun b => va.ownBlock = some b) w1 w3 := ((Only.refl _ w1).alloc oa).grown g3 (fun k hk => .inl hk)
  have s3 := o3.size
  have o6 : Only (fun b => vw.ownBlock = some b) w3 w6 := (((Only.refl _ w3).alloc _).alloc ow).grown g6 (fun k hk => .inl hk)
  have s6 := o6.size
  have l3 (b : Nat) (hb : va1.ownBlock = some b) : b < w3.heap.size := (e3.lt b hb).2
  have l6 (b : Nat) (hb : vw1.ownBlock = some b) : b < w6.heap.size := (e6.lt b hb).2
  have sA : w3.heap.size + 2 ≤ w6.heap.size := by have := g6.size; simp at this; omega
  have hfit : (n : Int) < 4611686018427387904 - q.tk := by have := h.tk; omega
  have A3 : Row w3 (fun b => FA b ∨ va1.ownBlock = some b) 3 1 va1 (N + 1) (nums ((List.range (N + 1)).map (updf ad N (q.tk + 1)))) := ⟨by rw [← ads_push]; exact e3, fun b hb => .inr hb⟩
  have W1 : LL w3 FW 32 vw N V X := (h.wt.only o1 (fun b _ hf hh => (h.d1 b hh).2 hf)).only o3 (fun b _ hf hv => h.d2 b (hva b hv) hf)
  have W2 : LL ((w3.alloc (.cells cs 3)).alloc ow) FW 32 vw N V X := (W1.only ((Only.refl (fun _ => False) _).alloc _) fun _ _ _ h => h).only ((Only.refl (fun _ => False) _).alloc _) fun _ _ _ h => h
  have hnew : Row ((w3.alloc (.cells cs 3)).alloc ow) (fun x => x = w3.heap.size) 3 1 (.slice (some ⟨w3.heap.size, 0, none⟩) n n) (List.replicate n (0 : Int)).length (nums (List.replicate n 0)) := by
    have := (Row.fresh (w := w3.alloc (.cells cs 3)) (b := w3.heap.size) (l := List.replicate n 0) (heap_alloc_new w3 _) hcs (by simp [maxLen]; omega)).alloc ow
    simpa using this
  have W3 := LL.pushed (w1 := w6) (u := .slice (some ⟨w3.heap.size, 0, none⟩) n n) (v1 := vw1) (l := List.replicate n 0) (G := fun x => x = w3.heap.size) (by decide) W2 hnew (fun b hb hf => by have := (h.bW b hf).2; omega) e6 g6
  have cA (b : Nat) (hb : va1.ownBlock = some b) : FA b ∨ (w1.heap.size ≤ b ∧ b < w3.heap.size) := by
    rcases t3 with e | ⟨b', e, hb'⟩
    · exact .inl (hva b (by rw [← e]; exact hb))
    · rw [e] at hb; injection hb with hb; subst hb; exact .inr ⟨hb', l3 _ e⟩
  have cW (b : Nat) (hb : vw1.ownBlock = some b) : FW b ∨ (w3.heap.size + 1 ≤ b ∧ b < w6.heap.size) := by
    rcases t6 with e | ⟨b', e, hb'⟩
    · exact .inl (hvw b (by rw [← e]; exact hb))
    · rw [e] at hb; injection hb with hb; subst hb; exact .inr ⟨hb', l6 _ e⟩
  refine ⟨?_, ?_, ?_, W3, h.kept.make n hfit, fun b hb => ?_, fun b hb => ?_, fun b hb => ?_, fun b hb => ⟨?_, ?_⟩, ?_, fun k hk => ?_, ?_⟩
  · refine ((h.below.trans (o1.toBelow hB fun k hk hf => ?_)).trans (o3.toBelow (by omega) fun k hk hf => ?_)).trans (o6.toBelow (by omega) fun k hk hf => ?_)
    · have := (h.bH k hf).1; omega
    · have := (h.bA k (hva k hf)).1; omega
    · have := (h.bW k (hvw k hf)).1; omega
  · exact (hh.only o3 fun b _ hf hv => (h.d1 b hf).1 (hva b hv)).only o6 fun b _ hf hv => (h.d1 b hf).2 (hvw b hv)
  · refine A3.only o6 fun b hb hv => ?_
    rcases cA b hb with hf | ⟨hf, _⟩
    · exact h.d2 b hf (hvw b hv)
    · have := (h.bW b (hvw b hv)).2; omega
  · have := h.bH b hb; omega
  · rcases hb with hb | hb
    · have := h.bA b hb; omega
    · rcases cA b hb with hf | hf
      · have := h.bA b hf; omega
      · omega
  · rcases hb with hb | hb | hb
    · have := h.bW b hb; omega
    · omega
    · rcases cW b hb with hf | hf
      · have := h.bW b hf; omega
      · omega
  · rintro (hf | hf)
    · exact (h.d1 b hb).1 hf
    · rcases cA b hf with hf | hf
      · exact (h.d1 b hb).1 hf
      · have := (h.bH b hb).2; omega
  · rintro (hf | hf | hf)
    · exact (h.d1 b hb).2 hf
    · have := (h.bH b hb).2; omega
    · rcases cW b hf with hf | hf
      · exact (h.d1 b hb).2 hf
      · have := (h.bH b hb).2; omega
  · have key (b : Nat) (ha : FA b ∨ (w1.heap.size ≤ b ∧ b < w3.heap.size)) (hw : FW b ∨ w3.heap.size ≤ b) : False := by
      rcases ha with ha | ha <;> rcases hw with hw | hw
      · exact h.d2 b ha hw
      · have := (h.bA b ha).2; omega
      · have := (h.bW b hw).2; omega
      · omega
    intro b ha hw
    refine key b (ha.elim .inl (cA b)) ?_
    rcases hw with hw | hw | hw
    · exact .inl hw
    · exact .inr (by omega)
    · rcases cW b hw with hf | hf
      · exact .inl hf
      · exact .inr (by omega)
  · by_cases he : k = N
    · subst he; rw [updf_same]; simpa using hn
    · rw [updf_other _ _ _ he]; exact h.lens k (by omega)
  · rw [make_of ⟨by omega, hfit⟩]
    have := h.tk
    show q.tk + n + 1 ≤ _
    omega
/-- A word put, by both. -/
theorem KP.put {w wr w1 : World} {g c : Nat} {va vw : Value} {q : QH} {N : Nat} {ad : Nat → Int} {X : Nat → List Int} {V : Nat → Value} {FH FA FW : Nat → Prop} (h : KP w wr g c va vw q N ad X V FH FA FW) {k i nb cap : Nat} (hk : k < N) (hi : i < (X k).length) (x : Int) (hV : V k = .slice (some ⟨nb, 0, none⟩) (X k).length cap)
    (hh : HeapAt w1 FH g (c + 1) (q.set (ad k) i x)) (o1 : Only FH wr w1) :
    KP w (w1.setCell ⟨nb, i, none⟩ (.int .i64 x)) g (c + 1) va vw (q.set (ad k) i x) N ad (updf X k ((X k).set i x)) V FH FA FW := by
  have hB := h.below.size
  have s1 := o1.size
  have W1 : LL w1 FW 32 vw N V X := h.wt.only o1 fun b _ hf hh => (h.d1 b hh).2 hf
  obtain ⟨W2, hnb⟩ := W1.stored (by decide) hk hV i x
  have o2 : Only FW w1 (w1.setCell ⟨nb, i, none⟩ (.int .i64 x)) := (Only.refl _ w1).setCell (p := ⟨nb, i, none⟩) (.inl hnb) _
  have sz : (w1.setCell ⟨nb, i, none⟩ (.int .i64 x)).heap.size = w1.heap.size := by simp [World.setCell]
  have htk : (q.set (ad k) i x).tk = q.tk := by unfold QH.set; split <;> rfl
  refine ⟨(h.below.trans (o1.toBelow hB fun b hb hf => by have := (h.bH b hf).1; omega)).trans (o2.toBelow (by omega) fun b hb hf => by have := (h.bW b hf).1; omega),
    hh.only o2 fun b _ hf hw => (h.d1 b hf).2 hw, (h.ad_.only o1 fun b hb hf => (h.d1 b hf).1 (h.ad_.2 b hb)).only o2 fun b hb hf => h.d2 b (h.ad_.2 b hb) hf, W2, h.kept.set hk i x hi,
    fun b hb => by have := h.bH b hb; rw [sz]; omega, fun b hb => by have := h.bA b hb; rw [sz]; omega, fun b hb => by have := h.bW b hb; rw [sz]; omega, h.d1, h.d2, fun j hj => ?_, by rw [htk]; exact h.tk⟩
  by_cases he : j = k
  · subst he; rw [updf_same, List.length_set]; exact h.lens j hj
  · rw [updf_other _ _ _ he]; exact h.lens j hj
theorem KP.still {w wr w1 : World} {g c : Nat} {va vw : Value} {q : QH} {N : Nat} {ad : Nat → Int} {X : Nat → List Int} {V : Nat → Value} {FH FA FW : Nat → Prop} (h : KP w wr g c va vw q N ad X V FH FA FW) (hh : HeapAt w1 FH g (c + 1) q) (o1 : Only FH wr w1) :
    KP w w1 g (c + 1) va vw q N ad X V FH FA FW := by
  have hB := h.below.size
  have s1 := o1.size
  exact ⟨h.below.trans (o1.toBelow hB fun b hb hf => by have := (h.bH b hf).1; omega), hh, h.ad_.only o1 fun b hb hf => (h.d1 b hf).1 (h.ad_.2 b hb), h.wt.only o1 fun b _ hf hh => (h.d1 b hh).2 hf, h.kept,
    fun b hb => by have := h.bH b hb; omega, fun b hb => by have := h.bA b hb; omega, fun b hb => by have := h.bW b hb; omega, h.d1, h.d2, h.lens, h.tk⟩
end Go.Proofs.Ytoakmifihofpeaa
