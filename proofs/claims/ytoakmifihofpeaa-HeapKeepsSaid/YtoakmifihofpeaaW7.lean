/- The document's Set, whole; the pair of heaps; what a call of it leaves. -/
import Derived.Test.YtoakmifihofpeaaBoth
set_option linter.unusedVariables false
set_option linter.unusedSimpArgs false
namespace Go.Proofs.Ytoakmifihofpeaa
open Go.RowKit
theorem rset_no (w : World) (F : Nat → Prop) (g : Nat) (r : RH) (a i x : Int) (h : RHeapAt w F g r) (hs : Sorted r) (hN : r.N ≤ 1000000) (hno : ∀ k, k < r.N → r.ad k = a → ¬ (0 ≤ i ∧ i < r.nn k)) :
    Calls Try.prog 23 #[.pointer (some ⟨g, 0, none⟩), .int .i64 a, .int .i64 i, .int .i64 x] w fun e w' => e = .returned (.bool false) ∧ w = w' := by
  have FC := Lib.hid (find_c w F g r a h hs hN)
  go_enter Try.func23, Try.ntmps23
  go_wp2_with fail
  refine FC.out.mono ?_
  rintro e w' ⟨z, rfl, hz, rfl⟩
  rcases hz with ⟨k, rfl, hk, hka⟩ | ⟨rfl, hnone⟩
  · have hn := hno k hk hka
    obtain ⟨v, V, hr⟩ := h
    obtain ⟨vb, cap, rfl, _, _, hcap⟩ := hr.row.form (by omega)
    have c0 : w.cell? ⟨g, 0, none⟩ = some (.slice (some ⟨vb, 0, none⟩) r.N cap) := hr.blk.cell 0
    have cn := hr.nn_cell hk
    clear hr hs hno hka FC
    generalize r.nn k = m at *
    by_cases hi0 : i < 0
    · clear hn
      go_wp2_with fail
      go_ret
      exact ⟨rfl, rfl⟩
    · have hi1 : m ≤ i := by omega
      clear hn
      go_wp2_with fail
      go_ret
      exact ⟨rfl, rfl⟩
  · clear hnone hs hno h FC
    go_wp2_with fail
    go_ret
    exact ⟨rfl, rfl⟩
/-- EVERY Set of the document's heap, beside the heap that it is held against. -/
theorem rset_c (w : World) (F : Nat → Prop) (g c : Nat) (q : QH) (r : RH) (a i x : Int) (h : RHeapAt w F g r) (hb : Both q r) (hc : c < 1000000) (hN : r.N ≤ c) (hL : ∀ k, k < r.N → (r.X k 1).length ≤ c) :
    Calls Try.prog 23 #[.pointer (some ⟨g, 0, none⟩), .int .i64 a, .int .i64 i, .int .i64 x] w fun e w' => e = .returned (.bool (q.has a i)) ∧
      ∃ r', RHeapAt w' (fun b => F b ∨ w.heap.size ≤ b) g r' ∧ Both (q.set a i x) r' ∧ r'.N = r.N ∧ (∀ k, k < r'.N → (r'.X k 1).length ≤ c + 1) ∧ Only F w w' := by
  by_cases he : ∃ k, k < r.N ∧ r.ad k = a ∧ 0 ≤ i ∧ i < r.nn k
  · obtain ⟨k, hk, rfl, hi0, hi1⟩ := he
    have hh : q.has (r.ad k) i = true := by rw [hb.has_yes hk]; exact decide_eq_true ⟨hi0, hi1⟩
    rw [hh]
    by_cases hn : i < 4096
    · refine (rset_near w F g r _ i x h hb.sorted (by omega) k hk rfl hi0 hi1 hn (hb.valid.near k hk)).mono ?_
      rintro e w' ⟨rfl, h1, h2⟩
      refine ⟨rfl, _, h1, hb.setNear hk hi0 hi1 hn, rfl, fun k' hk' => ?_, h2⟩
      have : (r.setNear k i.toNat x).X k' 1 = r.X k' 1 := upd2_other _ _ _ _ (by omega)
      rw [this]
      have := hL k' hk'
      omega
    · refine (rset_far w F g r _ i x h hb.sorted (by omega) k hk rfl hi1 (by omega) (hb.valid.far k hk) (by have := hL k hk; omega)).mono ?_
      rintro e w' ⟨rfl, h1, h2⟩
      have hNN : (r.setFar k i x).N = r.N := by unfold RH.setFar; split <;> rfl
      refine ⟨rfl, _, h1, hb.setFar hk hi1 (by omega), hNN, fun k' hk' => ?_, h2⟩
      rw [hNN] at hk'
      have hl := hL k' hk'
      unfold RH.setFar
      split
      · have : (r.setX k 2 ((r.X k 2).set (fpos (r.X k 1) i) x)).X k' 1 = r.X k' 1 := upd2_other _ _ _ _ (by omega)
        rw [this]; omega
      · by_cases e : k' = k
        · subst e
          have : ((r.setX k' 1 (r.X k' 1 ++ [i])).setX k' 2 (r.X k' 2 ++ [x])).X k' 1 = r.X k' 1 ++ [i] := (upd2_other _ _ _ _ (by omega)).trans (upd2_same _ _ _ _)
          rw [this]; simp; omega
        · have : ((r.setX k 1 (r.X k 1 ++ [i])).setX k 2 (r.X k 2 ++ [x])).X k' 1 = r.X k' 1 := (upd2_other _ _ _ _ (by omega)).trans (upd2_other _ _ _ _ (by omega))
          rw [this]; omega
  · have hno : ∀ k, k < r.N → r.ad k = a → ¬ (0 ≤ i ∧ i < r.nn k) := fun k hk hka hi => he ⟨k, hk, hka, hi⟩
    have hh : q.has a i = false := hb.has_no hno
    have hset : q.set a i x = q := by rw [QH.set, hh]; rfl
    rw [hh, hset]
    refine (rset_no w F g r a i x h hb.sorted (by omega) hno).mono ?_
    rintro e w' ⟨rfl, rfl⟩
    obtain ⟨v, V, hr⟩ := h
    exact ⟨rfl, r, ⟨v, V, hr.more fun b _ hf => .inl hf⟩, hb, rfl, fun k hk => Nat.le_succ_of_le (hL k hk), Only.refl _ _⟩

/-! ### The pair -/
/-- A PAIR STANDS AT p, its blocks among F; at most c entries in each map, c blocks, c far words a block, c addresses. -/
structure PairP (w : World) (F : Nat → Prop) (p c : Nat) (q : QH) (r : RH) (l : List Int) (F1 F2 F3 : Nat → Prop) (g gr : Nat) (v : Value) : Prop where
  box : Blk w p 50 #[.pointer (some ⟨g, 0, none⟩), .pointer (some ⟨gr, 0, none⟩), v]
  hp : HeapAt w F1 g c q
  rp : RHeapAt w F2 gr r
  rw : Row w F3 3 1 v l.length (nums l)
  fp : F p
  f1 : ∀ b, F1 b → F b ∧ b < w.heap.size
  f2 : ∀ b, F2 b → F b ∧ b < w.heap.size ∧ ¬ F1 b
  f3 : ∀ b, F3 b → F b ∧ b < w.heap.size ∧ ¬ F1 b ∧ ¬ F2 b
  np : ¬ F1 p ∧ ¬ F2 p ∧ ¬ F3 p
  both : Both q r
  cc : c < 900000
  cN : r.N ≤ c
  cX : ∀ k, k < r.N → (r.X k 1).length ≤ c
  cl : l.length ≤ c
  al : ∀ x ∈ l, 0 ≤ x ∧ x ≤ 4611686018427387904
def PairAt (w : World) (F : Nat → Prop) (p c : Nat) : Prop := ∃ q r l F1 F2 F3 g gr v, PairP w F p c q r l F1 F2 F3 g gr v
section
variable {w w' : World} {F G : Nat → Prop} {p c : Nat} {q : QH} {r : RH} {l : List Int} {F1 F2 F3 : Nat → Prop} {g gr : Nat} {v : Value}
theorem PairAt.more (h : PairAt w F p c) (hG : ∀ b, b < w.heap.size → F b → G b) : PairAt w G p c := by
  obtain ⟨q, r, l, F1, F2, F3, g, gr, v, H⟩ := h
  exact ⟨q, r, l, F1, F2, F3, g, gr, v, ⟨H.box, H.hp, H.rp, H.rw, hG p H.box.lt H.fp, fun b hb => ⟨hG b (H.f1 b hb).2 (H.f1 b hb).1, (H.f1 b hb).2⟩, fun b hb => ⟨hG b (H.f2 b hb).2.1 (H.f2 b hb).1, (H.f2 b hb).2⟩,
    fun b hb => ⟨hG b (H.f3 b hb).2.1 (H.f3 b hb).1, (H.f3 b hb).2⟩, H.np, H.both, H.cc, H.cN, H.cX, H.cl, H.al⟩⟩
theorem PairP.only (H : PairP w F p c q r l F1 F2 F3 g gr v) (ho : Only G w w') (hd : ∀ b, b < w.heap.size → F b → ¬ G b) : PairP w' F p c q r l F1 F2 F3 g gr v :=
  ⟨H.box.only ho (hd p H.box.lt H.fp), H.hp.only ho (fun b hb hf => hd b hb (H.f1 b hf).1), let ⟨a, b, hr⟩ := H.rp; ⟨a, b, hr.only ho (fun b hb hf => hd b hb (H.f2 b hf).1)⟩,
    H.rw.only ho (fun b hb => hd b (H.rw.lt hb) (H.f3 b (H.rw.2 b hb)).1), H.fp, fun b hb => ⟨(H.f1 b hb).1, Nat.lt_of_lt_of_le (H.f1 b hb).2 ho.size⟩, fun b hb => ⟨(H.f2 b hb).1, Nat.lt_of_lt_of_le (H.f2 b hb).2.1 ho.size, (H.f2 b hb).2.2⟩,
    fun b hb => ⟨(H.f3 b hb).1, Nat.lt_of_lt_of_le (H.f3 b hb).2.1 ho.size, (H.f3 b hb).2.2⟩, H.np, H.both, H.cc, H.cN, H.cX, H.cl, H.al⟩
theorem PairAt.only (h : PairAt w F p c) (ho : Only G w w') (hd : ∀ b, b < w.heap.size → F b → ¬ G b) : PairAt w' F p c := by
  obtain ⟨q, r, l, F1, F2, F3, g, gr, v, H⟩ := h
  exact ⟨q, r, l, F1, F2, F3, g, gr, v, H.only ho hd⟩
theorem PairP.up (H : PairP w F p c q r l F1 F2 F3 g gr v) (hc : c + 1 < 900000) : PairP w F p (c + 1) q r l F1 F2 F3 g gr v :=
  ⟨H.box, H.hp.mono (by omega), H.rp, H.rw, H.fp, H.f1, H.f2, H.f3, H.np, H.both, hc, Nat.le_succ_of_le H.cN, fun k hk => Nat.le_succ_of_le (H.cX k hk), Nat.le_succ_of_le H.cl, H.al⟩
/-- Both heaps have turned, one behind the other. -/
theorem PairP.done {w2 w3 : World} {q' : QH} {r' : RH} (H : PairP w F p c q r l F1 F2 F3 g gr v) (o1 : Only F1 w w2) (hh : HeapAt w2 F1 g (c + 1) q') (o2 : Only F2 w2 w3) (rr : RHeapAt w3 (fun b => F2 b ∨ w2.heap.size ≤ b) gr r')
    (hb : Both q' r') (hcc : c + 1 < 900000) (hN : r'.N ≤ c + 1) (hX : ∀ k, k < r'.N → (r'.X k 1).length ≤ c + 1) :
    PairP w3 (fun b => F b ∨ w.heap.size ≤ b) p (c + 1) q' r' l F1 (fun b => (F2 b ∨ w2.heap.size ≤ b) ∧ b < w3.heap.size) F3 g gr v ∧ Only F w w3 := by
  have s1 := o1.size
  have s2 := o2.size
  have o3 : Only F w w3 := (o1.mono (fun b _ hb => (H.f1 b hb).1)).trans o2 (fun b _ hb => (H.f2 b hb).1)
  refine ⟨⟨(H.box.only o1 H.np.1).only o2 H.np.2.1, hh.only o2 (fun b _ hf hf2 => (H.f2 b hf2).2.2 hf), ?_, ?_, .inl H.fp, fun b hb => ⟨.inl (H.f1 b hb).1, by have := (H.f1 b hb).2; omega⟩, ?_, ?_, ?_, hb, hcc, hN, hX, Nat.le_succ_of_le H.cl, H.al⟩, o3⟩
  · obtain ⟨a, b, hr⟩ := rr
    exact ⟨a, b, hr.more fun x hx hf => ⟨hf, hx⟩⟩
  · exact (H.rw.only o1 (fun b hb => (H.f3 b (H.rw.2 b hb)).2.2.1)).only o2 (fun b hb => (H.f3 b (H.rw.2 b hb)).2.2.2)
  · rintro b ⟨hf | hf, hlt⟩
    · exact ⟨.inl (H.f2 b hf).1, hlt, (H.f2 b hf).2.2⟩
    · exact ⟨.inr (by omega), hlt, fun h1 => by have := (H.f1 b h1).2; omega⟩
  · intro b hb
    have h3 := H.f3 b hb
    refine ⟨.inl h3.1, by omega, h3.2.2.1, ?_⟩
    rintro ⟨hf | hf, _⟩
    · exact h3.2.2.2 hf
    · omega
  · refine ⟨H.np.1, ?_, H.np.2.2⟩
    rintro ⟨hf | hf, _⟩
    · exact H.np.2.1 hf
    · have := H.box.lt; omega
/-- An address more. -/
theorem PairP.pushed {wa : World} {v1 : Value} {y : Int} (H : PairP w F p c q r l F1 F2 F3 g gr v) (hown : wa.ownsRow 0 3 1 v1 (l.length + 1) (nums l ++ [.int .i64 y])) (hg : w.grownBy wa v.ownBlock) {Hb : Nat}
    (hat : v1.ownBlock = v.ownBlock ∨ v1.ownBlock = some Hb) (hH : w.heap.size ≤ Hb) (hl : l.length + 1 ≤ c) (hy : 0 ≤ y ∧ y ≤ 4611686018427387904) :
    PairP (wa.setCell ⟨p, 2, none⟩ v1) (fun b => F b ∨ w.heap.size ≤ b) p c q r (l ++ [y]) F1 F2 (fun b => (F3 b ∨ w.heap.size ≤ b) ∧ b < wa.heap.size) g gr v1 ∧ Only F w (wa.setCell ⟨p, 2, none⟩ v1) := by
  have hpl := H.box.lt
  have hvp : v.ownBlock ≠ some p := own_blk_ne H.rw.1 H.box (by decide)
  have o1 : Only (fun b => v.ownBlock = some b) w wa := (Only.refl _ w).grown hg (fun k hk => .inl hk)
  have o2 : Only (fun b => v.ownBlock = some b ∨ b = p) w (wa.setCell ⟨p, 2, none⟩ v1) := (o1.mono (fun b _ h => .inl h)).setCell (p := ⟨p, 2, none⟩) (.inl (.inr rfl)) v1
  have hbox1 : Blk wa p 50 #[.pointer (some ⟨g, 0, none⟩), .pointer (some ⟨gr, 0, none⟩), v] := H.box.only o1 hvp
  have sz : (wa.setCell ⟨p, 2, none⟩ v1).heap.size = wa.heap.size := by simp [World.setCell]
  have s1 := o1.size
  have hrow : Row wa (fun b => (F3 b ∨ w.heap.size ≤ b) ∧ b < wa.heap.size) 3 1 v1 (l.length + 1) (nums (l ++ [y])) := by
    refine ⟨by rw [← nums_append]; exact hown, fun b hb => ⟨?_, (hown.lt b hb).2⟩⟩
    rcases hat with e | e
    · exact .inl (H.rw.2 b (by rw [← e]; exact hb))
    · rw [e] at hb; injection hb with hb; right; omega
  refine ⟨⟨?_, H.hp.only o2 ?_, ?_, ?_, .inl H.fp, fun b hb => ⟨.inl (H.f1 b hb).1, by rw [sz]; exact Nat.lt_of_lt_of_le (H.f1 b hb).2 s1⟩, fun b hb => ⟨.inl (H.f2 b hb).1, by rw [sz]; exact Nat.lt_of_lt_of_le (H.f2 b hb).2.1 s1, (H.f2 b hb).2.2⟩, ?_, ⟨H.np.1, H.np.2.1, ?_⟩, H.both, H.cc, H.cN, H.cX, by simpa using hl, ?_⟩, ?_⟩
  · have := hbox1.set_ 2 v1
    simpa using this
  · intro b _ hf hv
    rcases hv with hv | rfl
    · exact (H.f3 b (H.rw.2 b hv)).2.2.1 hf
    · exact H.np.1 hf
  · obtain ⟨a, b, hr⟩ := H.rp
    refine ⟨a, b, hr.only o2 fun b _ hf hv => ?_⟩
    rcases hv with hv | rfl
    · exact (H.f3 b (H.rw.2 b hv)).2.2.2 hf
    · exact H.np.2.1 hf
  · rw [List.length_append]
    exact hrow.far (p := ⟨p, 2, none⟩) (own_blk_ne hrow.1 hbox1 (by decide)) v1
  · rintro b ⟨hf | hf, hlt⟩
    · have h3 := H.f3 b hf
      exact ⟨.inl h3.1, by rw [sz]; exact hlt, h3.2.2⟩
    · exact ⟨.inr hf, by rw [sz]; exact hlt, fun h1 => by have := (H.f1 b h1).2; omega, fun h1 => by have := (H.f2 b h1).2.1; omega⟩
  · rintro ⟨hf | hf, _⟩
    · exact H.np.2.2 hf
    · omega
  · intro x hx
    rcases List.mem_append.1 hx with hx | hx
    · exact H.al x hx
    · rw [List.mem_singleton] at hx; subst hx; exact hy
  · exact o2.mono (fun b _ hb => by
      rcases hb with hb | rfl
      · exact (H.f3 b (H.rw.2 b hb)).1
      · exact H.fp)
/-- The first heap has turned. -/
theorem PairP.heap1 (H : PairP w F p c q r l F1 F2 F3 g gr v) (ho : Only F1 w w') : Blk w' p 50 #[.pointer (some ⟨g, 0, none⟩), .pointer (some ⟨gr, 0, none⟩), v] ∧ RHeapAt w' F2 gr r ∧ Row w' F3 3 1 v l.length (nums l) :=
  ⟨H.box.only ho H.np.1, let ⟨a, b, hr⟩ := H.rp; ⟨a, b, hr.only ho (fun b hb hf => (H.f2 b hf).2.2)⟩, H.rw.only ho (fun b hb => (H.f3 b (H.rw.2 b hb)).2.2.1)⟩
end
end Go.Proofs.Ytoakmifihofpeaa
