/- CodeAll: what has been answered, step by step. No walk here. -/
import Derived.Test.YtafhjpehkfcmjaaC4
import Derived.Test.YtafhjpehkfcmjaaOpenA
import Derived.Test.YtafhjpehkfcmjaaW48
set_option linter.unusedVariables false
set_option linter.unusedSimpArgs false
namespace Go.Proofs.Ytafhjpehkfcmjaa
open Go.RowKit
theorem SC.below {w w' : World} {A : Option Addr} {n : Nat} {f : Nat → CC} (h : SC w A n f) (hb : Below w.heap.size w w') : SC w' A n f := by
  refine ⟨h.1, fun i hi => ?_⟩
  obtain ⟨k, b, off, e, hl, c0, c1, c2, c3⟩ := h.2 i hi
  have o := Only.ofBelow (F := fun _ => False) hb
  exact ⟨⟨k.h1, k.h2, k.hm, (k.il.below hb).now, (k.fl.below hb).now, (k.bl.below hb).now, k.h3, k.h4⟩, b, off, e, Nat.lt_of_lt_of_le hl hb.size, (o.cell hl (fun h => h)).trans c0, (o.cell hl (fun h => h)).trans c1, (o.cell hl (fun h => h)).trans c2, (o.cell hl (fun h => h)).trans c3⟩
noncomputable def wrL (x : CC) : List UInt8 := outL x.ni x.X x.nf x.Fs x.m
noncomputable def rdO (x : CC) : Out := run x.S x.L pAll 0
/-- A Read's answer, its lists the call's own. -/
theorem read_own {Bf : Nat → UInt8} {L : Nat} {w w' : World} {e : Ending} (h : ReadPost Bf L w e w') (hL : L ≤ 268435456) : ∃ A c1 B c2, e = .returned (.tuple #[.agg #[.slice A (outI (run Bf L pAll 0)).length c1, .slice B (outF (run Bf L pAll 0)).length c2, .int .i64 (outM (run Bf L pAll 0) : Int)], .int .i64 (outQ (run Bf L pAll 0) : Int), .int .i64 (outE (run Bf L pAll 0))]) ∧
    IR w' w.heap.size (.slice A (outI (run Bf L pAll 0)).length c1) (outI (run Bf L pAll 0)) ∧ FR w' w.heap.size (.slice B (outF (run Bf L pAll 0)).length c2) (outF (run Bf L pAll 0)) ∧ Below w.heap.size w w' := by
  obtain ⟨hb, ⟨h, _⟩ | ⟨_, q, hq, rfl⟩ | ⟨_, cd, iv, fv, hq, rfl, hi, hf⟩⟩ := h
  · omega
  · rw [hq]
    exact ⟨none, 0, none, 0, rfl, own_nil _ _ _ _, own_nil _ _ _ _, hb⟩
  · obtain ⟨A', c1, rfl, l1, _, _⟩ := own_shape hi
    obtain ⟨D', c2, rfl, l2, _, _⟩ := own_shape hf
    rw [hq]
    exact ⟨A', c1, D', c2, rfl, hi, hf, hb⟩
/-- What is known of what has been read. -/
theorem out_in {Bf : Nat → UInt8} {L : Nat} (hL : L ≤ 268435456) : (∀ x, x ∈ outI (run Bf L pAll 0) → InsIn x) ∧ (∀ f, f ∈ outF (run Bf L pAll 0) → FnIn f ∧ f.name.size ≤ 9223372036854775807) ∧ (outI (run Bf L pAll 0)).length ≤ L ∧ (outF (run Bf L pAll 0)).length ≤ L ∧ i64in (outM (run Bf L pAll 0)) := by
  cases hq : run Bf L pAll 0 with
  | bad q =>
    refine ⟨fun x (hx : x ∈ ([] : List Ins)) => absurd hx List.not_mem_nil, fun x (hx : x ∈ ([] : List Fn)) => absurd hx List.not_mem_nil, Nat.zero_le _, Nat.zero_le _, ?_, ?_⟩
    · show (-9223372036854775808 : Int) ≤ 0; omega
    · show (0 : Int) ≤ 9223372036854775807; omega
  | good cd =>
    obtain ⟨h1, h2, h3, h4, h5⟩ := run_good (by omega) hq
    have hmn : (cd.main : Int) < cd.fns.length := h1.2.2.2.1
    have hmm := enc_min cd.ins.length (insF cd.ins) cd.fns.length (fnF cd.fns) cd.main
    unfold encC at h5
    rw [← h5] at hmm
    refine ⟨h2, fun f hf => ⟨(h3 f hf).1, by have := (h3 f hf).2; omega⟩, ?_, ?_, ?_, ?_⟩
    · show cd.ins.length ≤ L; omega
    · show cd.fns.length ≤ L; omega
    · show (-9223372036854775808 : Int) ≤ (cd.main : Int); omega
    · show (cd.main : Int) ≤ _; omega
def cells3 (V1 V2 : Nat → Value) (m : Nat → Int) : Nat → List Value
  | 0 => []
  | n + 1 => cells3 V1 V2 m n ++ [V1 n, V2 n, .int .i64 (m n)]
theorem cells3_length (V1 V2 : Nat → Value) (m : Nat → Int) : ∀ n, (cells3 V1 V2 m n).length = n * 3
  | 0 => rfl
  | n + 1 => by rw [cells3, List.length_append, cells3_length V1 V2 m n]; simp; omega
theorem cells3_get (V1 V2 : Nat → Value) (m : Nat → Int) : ∀ n k, k < n → (cells3 V1 V2 m n)[k * 3]? = some (V1 k) ∧ (cells3 V1 V2 m n)[k * 3 + 1]? = some (V2 k) ∧ (cells3 V1 V2 m n)[k * 3 + 2]? = some (.int .i64 (m k))
  | 0, k, h => by omega
  | n + 1, k, h => by
    have hl := cells3_length V1 V2 m n
    rw [cells3]
    by_cases e : k = n
    · subst e
      refine ⟨?_, ?_, ?_⟩
      · rw [List.getElem?_append_right (by omega), hl, Nat.sub_self]; rfl
      · rw [List.getElem?_append_right (by omega), hl, show k * 3 + 1 - k * 3 = 1 by omega]; rfl
      · rw [List.getElem?_append_right (by omega), hl, show k * 3 + 2 - k * 3 = 2 by omega]; rfl
    · obtain ⟨h1, h2, h3⟩ := cells3_get V1 V2 m n k (by omega)
      exact ⟨by rw [List.getElem?_append_left (by omega)]; exact h1, by rw [List.getElem?_append_left (by omega)]; exact h2, by rw [List.getElem?_append_left (by omega)]; exact h3⟩
theorem cells3_congr {V1 V2 V1' V2' : Nat → Value} {m m' : Nat → Int} : ∀ n, (∀ k, k < n → V1 k = V1' k ∧ V2 k = V2' k ∧ m k = m' k) → cells3 V1 V2 m n = cells3 V1' V2' m' n
  | 0, _ => rfl
  | n + 1, h => by rw [cells3, cells3, cells3_congr n (fun k hk => h k (by omega)), (h n (by omega)).1, (h n (by omega)).2.1, (h n (by omega)).2.2]
/-! ### what has been left -/
section
variable (f : Nat → CC)
noncomputable def s0 (k : Nat) : Nat := (wrL (f (k / 2))).length
noncomputable def s1_ (k : Nat) : Nat := (outI (rdO (f (k / 2)))).length
noncomputable def s2_ (k : Nat) : Nat := (outF (rdO (f (k / 2)))).length
noncomputable def sm (k : Nat) : Int := (outM (rdO (f (k / 2))) : Int)
structure SA (w wr : World) (T : Nat) (tv cv : Value) (V0 V1 V2 : Nat → Value) : Prop where
  below : Below w.heap.size w wr
  f0 : F1 wr w.heap.size 5 1 T V0 (s0 f) (fun k => byts (wrL (f (k / 2))))
  f1 : F1 wr w.heap.size 41 5 T V1 (s1_ f) (fun k => insCells (outI (rdO (f (k / 2)))))
  f2 : F1 wr w.heap.size 53 5 T V2 (s2_ f) (fun k => fnCells (outF (rdO (f (k / 2)))))
  o0 : wr.ownsRow w.heap.size 28 1 tv T (cellsOf V0 T)
  o1 : wr.ownsRow w.heap.size 25 3 cv T (cells3 V1 V2 (sm f) T)
end
section
variable {f : Nat → CC} {w wr w2 : World} {A : Option Addr} {n T : Nat} {tv cv : Value} {V0 V1 V2 : Nat → Value} {gg : Nat}
theorem SA.start (hb : Below w.heap.size w wr) (V0 V1 V2 : Nat → Value) : SA f w wr 0 (.slice none 0 0) (.slice none 0 0) V0 V1 V2 :=
  ⟨hb, ⟨fun k hk => absurd hk (Nat.not_lt_zero _), fun k _ hk => absurd hk (Nat.not_lt_zero _)⟩, ⟨fun k hk => absurd hk (Nat.not_lt_zero _), fun k _ hk => absurd hk (Nat.not_lt_zero _)⟩, ⟨fun k hk => absurd hk (Nat.not_lt_zero _), fun k _ hk => absurd hk (Nat.not_lt_zero _)⟩, own_nil _ _ _ _, own_nil _ _ _ _⟩
theorem SA.on (h : SA f w wr T tv cv V0 V1 V2) (hb : Below wr.heap.size wr w2) : SA f w w2 T tv cv V0 V1 V2 :=
  have k := fun e' : TypeId => Only.ofBelow (F := fun b => ¬ TB wr b e') hb
  ⟨h.below.trans (hb.mono h.below.size), h.f0.keep (k 5), h.f1.keep (k 41), h.f2.keep (k 53), own_keep h.o0 (k 28), own_keep h.o1 (k 25)⟩
theorem F1.more {e : TypeId} {size N H : Nat} {V : Nat → Value} {nn : Nat → Nat} {X : Nat → List Value} (h : F1 wr H e size N V nn X) {v : Value} {H2 : Nat} (hv : wr.ownsRow H2 e size v (nn N) (X N)) (hH : H ≤ H2) (hlt : ∀ k, k < N → ∀ b, (V k).ownBlock = some b → b < H2) : F1 wr H e size (N + 1) (updV V N v) nn X := by
  refine ⟨fun k hk => ?_, fun k k' hk hk' hne b hb => ?_⟩
  · by_cases e1 : k = N
    · subst e1; rw [updV_same]; exact own_mono hv hH
    · rw [updV_off _ _ e1]; exact h.rows k (by omega)
  · have hv2 : ∀ b, v.ownBlock = some b → H2 ≤ b := fun b hb => (World.ownsRow.lt hv b hb).1
    by_cases e1 : k = N
    · subst e1
      rw [updV_same] at hb
      rw [updV_off _ _ (Ne.symm hne)]
      intro h2
      have := hlt k' (by omega) b h2
      have := hv2 b hb
      omega
    · rw [updV_off _ _ e1] at hb
      by_cases e2 : k' = N
      · subst e2
        rw [updV_same]
        intro h2
        have := hlt k (by omega) b hb
        have := hv2 b h2
        omega
      · rw [updV_off _ _ e2]
        exact h.ns k k' (by omega) (by omega) hne b hb
/-- The rows of an answer more, the heads of the lists grown. -/
theorem SA.push {w3 w4 wj : World} {r r2 v0 v1 v2 : Value} {g3 g4 : Nat} (h : SA f w wj T tv cv V0 V1 V2) (hb : Below wj.heap.size wj wr) 
    (h0 : BR wr wj.heap.size v0 (wrL (f (T / 2)))) (h1 : IR wr wj.heap.size v1 (outI (rdO (f (T / 2))))) (h2 : FR wr wj.heap.size v2 (outF (rdO (f (T / 2)))))
    (hown : w3.ownsRow w.heap.size 28 1 r (T + 1) (cellsOf V0 T ++ [v0])) (o3 : Only (fun b => b = g3) wr w3) (hat3 : tv.ownBlock = some g3 ∨ wr.heap.size ≤ g3)
    (hown2 : w4.ownsRow w.heap.size 25 3 r2 (T + 1) (cells3 V1 V2 (sm f) T ++ [v1, v2, .int .i64 (sm f T)])) (o4 : Only (fun b => b = g4) w3 w4) (hat4 : cv.ownBlock = some g4 ∨ w3.heap.size ≤ g4) :
    SA f w w4 (T + 1) r r2 (updV V0 T v0) (updV V1 T v1) (updV V2 T v2) := by
  have hr := h.on hb
  have hz := h.below.size
  have hzr : w.heap.size ≤ wr.heap.size := Nat.le_trans hz hb.size
  have hg3 := grow_ge hr.o0 hzr hat3
  have k3 := fun e' (hne : (28 : TypeId) ≠ e') => block_other (e' := e') o3 hg3.1 hne
  have o1' := own_keep hr.o1 (k3 25 (by decide))
  have hg4 := grow_ge o1' (Nat.le_trans hzr o3.size) hat4
  have k4 := fun e' (hne : (25 : TypeId) ≠ e') => block_other (e' := e') o4 hg4.1 hne
  have lt := fun {e : TypeId} {size : Nat} {V : Nat → Value} {nn : Nat → Nat} {X : Nat → List Value} (hf : F1 wj w.heap.size e size T V nn X) => fun k hk b hb => (World.ownsRow.lt (hf.rows k hk) b hb).2
  have u0 := own_keep (own_keep h0 (k3 5 (by decide))) (k4 5 (by decide))
  have u1 := own_keep (own_keep h1 (k3 41 (by decide))) (k4 41 (by decide))
  have u2 := own_keep (own_keep h2 (k3 53 (by decide))) (k4 53 (by decide))
  refine ⟨below_block (below_block hr.below hzr o3 hg3.2) (Nat.le_trans hzr o3.size) o4 hg4.2, ((hr.f0.keep (k3 5 (by decide))).keep (k4 5 (by decide))).more u0 hz (lt h.f0), ((hr.f1.keep (k3 41 (by decide))).keep (k4 41 (by decide))).more u1 hz (lt h.f1), ((hr.f2.keep (k3 53 (by decide))).keep (k4 53 (by decide))).more u2 hz (lt h.f2), ?_, ?_⟩
  · rw [← cells_push, cells_upd0]
    exact own_keep hown (k4 28 (by decide))
  · rw [cells3, updV_same, updV_same, cells3_congr (V1' := V1) (V2' := V2) (m' := sm f) T (fun k hk => ⟨updV_off _ _ (by omega), updV_off _ _ (by omega), rfl⟩)]
    exact hown2
/-- What apart is handed, out of what has been left. -/
theorem SA.apart {A C : Option Addr} {cA cC : Nat} (h : SA f w wr T (.slice A T cA) (.slice C T cC) V0 V1 V2) : M1 (AE.mk T A C V0 V1 V2 (s0 f) (s1_ f) (s2_ f) (sm f) w.heap.size wr.heap.size) wr wr 0 0 0 0 0 0 := by
  refine ⟨F1P.start h.f0, F1P.start h.f1, F1P.start h.f2, ⟨fun k hk => ?_, fun k hk => ?_⟩, Below.refl _ _, Nat.le_refl _⟩
  · obtain ⟨A', c', e, _, _, hg⟩ := own_shape h.o0
    injection e with e _ _
    subst e
    have hk' : k < T := hk
    obtain ⟨g, rfl, _, hl, hb⟩ := hg (by omega)
    exact ⟨g, rfl, own_tb h.o0 hb, hl, by rw [own_cells h.o0 hb k (by omega), cellsOf_get _ hk']⟩
  · obtain ⟨A', c', e, _, _, hg⟩ := own_shape h.o1
    injection e with e _ _
    subst e
    have hk' : k < T := hk
    obtain ⟨g, rfl, _, hl, hb⟩ := hg (by omega)
    obtain ⟨c0, c1, c2⟩ := cells3_get V1 V2 (sm f) T k hk'
    exact ⟨g, rfl, own_tb h.o1 hb, hl, by rw [own_cells h.o1 hb _ (by omega), c0], by rw [own_cells h.o1 hb _ (by omega), c1], by rw [own_cells h.o1 hb _ (by omega), c2]⟩
/-- What is read of the k-th answers. -/
theorem SA.facts {A C : Option Addr} {cA cC : Nat} (h : SA f w wr T (.slice A T cA) (.slice C T cC) V0 V1 V2) {k : Nat} (hk : k < T) (hL : (f (k / 2)).L ≤ 268435456) : ∃ ta ca D c0 I c1 J c2, A = some ⟨ta, 0, none⟩ ∧ C = some ⟨ca, 0, none⟩ ∧
    wr.cell? ⟨ta, k, none⟩ = some (.slice D (wrL (f (k / 2))).length c0) ∧ wr.cell? ⟨ca, k * 3, none⟩ = some (.slice I (outI (rdO (f (k / 2)))).length c1) ∧ wr.cell? ⟨ca, k * 3 + 1, none⟩ = some (.slice J (outF (rdO (f (k / 2)))).length c2) ∧ wr.cell? ⟨ca, k * 3 + 2, none⟩ = some (.int .i64 (outM (rdO (f (k / 2))) : Int)) ∧
    BL wr (fun b => b < wr.heap.size) D (wrL (f (k / 2))).length (lstF (wrL (f (k / 2)))) ∧ Res wr (fun b => b < wr.heap.size) (rdO (f (k / 2))) I c1 J c2 := by
  obtain ⟨ta, e1, _, _, a0⟩ := h.apart.hd.ht k hk
  obtain ⟨ca, e2, _, _, b0, b1, b2⟩ := h.apart.hd.hc k hk
  obtain ⟨D, c0, eD, _⟩ := own_shape (h.f0.rows k hk)
  obtain ⟨I, c1, eI, k1, _, _⟩ := own_shape (h.f1.rows k hk)
  obtain ⟨J, c2, eJ, k2, _, _⟩ := own_shape (h.f2.rows k hk)
  have r0 := h.f0.rows k hk
  have r1 := h.f1.rows k hk
  have r2 := h.f2.rows k hk
  rw [eD] at r0
  rw [eI] at r1
  rw [eJ] at r2
  obtain ⟨o1, o2, o3, o4, o5⟩ := out_in (Bf := (f (k / 2)).S) hL
  refine ⟨ta, ca, D, c0, I, c1, J, c2, e1, e2, a0.trans (congrArg some eD), b0.trans (congrArg some eI), b1.trans (congrArg some eJ), b2, ?_, ⟨?_, ?_, k1, k2, o5⟩⟩
  · have r0' : BR wr w.heap.size (.slice D (wrL (f (k / 2))).length c0) (wrL (f (k / 2))) := r0
    exact r0'.bl
  · have r1' : IR wr w.heap.size (.slice I (outI (rdO (f (k / 2)))).length c1) (outI (rdO (f (k / 2)))) := r1
    exact (r1'.il o1 (Nat.le_trans o3 (by omega))).now
  · have r2' : FR wr w.heap.size (.slice J (outF (rdO (f (k / 2)))).length c2) (outF (rdO (f (k / 2)))) := r2
    exact (r2'.fl o2 (Nat.le_trans o4 (by omega))).now
end
end Go.Proofs.Ytafhjpehkfcmjaa
