/- apart: how its lists stand while they are grown. -/
import Derived.Test.YtdpeckfdilpidaaW18
import Derived.Test.YtdpeckfdilpidaaApp2
set_option linter.unusedVariables false
set_option linter.unusedSimpArgs false
namespace Go.Proofs.Ytdpeckfdilpidaa
open Go.RowKit
def val (i L j : Nat) : Int := if j < L then -1000 * (i : Int) - (j : Int) - 1 else 1000000 + (i : Int)
def vals (i L n : Nat) : List Int := (List.range n).map (val i L)
theorem vals_length (i L n : Nat) : (vals i L n).length = n := by simp [vals]
theorem vals_get (i L n : Nat) {j : Nat} (h : j < n) : (vals i L n).getD j 0 = val i L j := by simp [vals, List.getD_eq_getElem?_getD, h]
theorem vals_succ (i L n : Nat) : vals i L (n + 1) = vals i L n ++ [val i L n] := by simp [vals, List.range_succ]
theorem vals_at (i L n : Nat) {j : Nat} (h : j < n) : (nums (vals i L n))[j]? = some (.int .i64 (val i L j)) := by
  rw [nums_get _ _ (by rw [vals_length]; exact h), vals_get i L n h]
/-- What is told of one stage that is held. -/
structure Stage (wr : World) (N : Nat) (V : Nat → Value) (L : Nat → Nat) (s1 lim : Nat) (gv hv g : Value) (ng : Nat) (u : Value) (I K B : Nat) : Prop where
  iN : I < N
  kb : K ≤ 90
  form : ∃ c, u = .slice (some ⟨B, 0, none⟩) (L I + K) c
  lt : B < wr.heap.size
  cells : ∀ j, j < L I + K → wr.cell? ⟨B, j, none⟩ = some (.int .i64 (val I (L I) j))
  at_ : ((V I).ownBlock = some B ∧ I < lim) ∨ s1 ≤ B
  notG : g.ownBlock = some B → L I + K ≤ ng
  notH : hv.ownBlock ≠ some B
  notGv : gv.ownBlock ≠ some B
structure AP (w wr : World) (F : Nat → Prop) (v : Value) (N : Nat) (V : Nat → Value) (L : Nat → Nat) (s1 : Nat) (gv : Value) (M : Nat) (GV : Nat → Value) (I K B : Nat → Nat) (hv g : Value) (ng i : Nat) : Prop where
  heads : Row wr (fun b => b < s1) 27 1 v N (heads N V)
  kept : ∀ k, k < N → ∀ b, (V k).ownBlock = some b → b < s1 ∧ F b ∧ ∀ j, j < L k → wr.cell? ⟨b, j, none⟩ = some (.int .i64 (val k (L k) j))
  own : ∀ k, i < k → k < N → Row wr (fun b => b < s1) 3 1 (V k) (L k) (nums (vals k (L k) (L k)))
  gown : wr.ownsRow 0 3 1 g ng (nums (vals i (L i) ng))
  gat : g.ownBlock = (V i).ownBlock ∨ ∃ b, g.ownBlock = some b ∧ s1 ≤ b
  gl : L i ≤ ng
  grown : Row wr (fun b => s1 ≤ b) 27 1 gv M (Go.Proofs.Ytdpeckfdilpidaa.heads M GV)
  whose : Row wr (fun b => s1 ≤ b) 3 1 hv M (nums (ofNats ((List.range M).map I)))
  st : ∀ n, n < M → Stage wr N V L s1 (i + 1) gv hv g ng (GV n) (I n) (K n) (B n)
  hg : ∀ b, hv.ownBlock = some b → g.ownBlock ≠ some b
  ns : ∀ k k', k < N → k' < N → k ≠ k' → ∀ b, (V k).ownBlock = some b → (V k').ownBlock ≠ some b
  only : Only F w wr
  s1 : w.heap.size ≤ s1 ∧ s1 ≤ wr.heap.size
  iN : i < N
section
variable {w wr w2 : World} {F : Nat → Prop} {v gv hv g : Value} {N s1 M ng i : Nat} {V GV : Nat → Value} {L I K B : Nat → Nat} {obj : Obj}
theorem ownsRow_only {w w' : World} {G : Nat → Prop} {e : TypeId} {size n : Nat} {v : Value} {xs : List Value} (h : w.ownsRow 0 e size v n xs) (o : Only G w w') (hne : ∀ b, v.ownBlock = some b → ¬ G b) : w'.ownsRow 0 e size v n xs :=
  (Row.only (F := fun _ => True) ⟨h, fun _ _ => trivial⟩ o hne).1
theorem own_ne {w : World} {e e' : TypeId} {size size' n n' b : Nat} {v v' : Value} {xs xs' : List Value} (h : w.ownsRow 0 e size v n xs) (h' : w.ownsRow 0 e' size' v' n' xs') (hne : e ≠ e') (hb : v.ownBlock = some b) : v'.ownBlock ≠ some b := fun e2 => by
  have r : Row w (fun _ => True) e size v n xs := ⟨h, fun _ _ => trivial⟩
  have r' : Row w (fun _ => True) e' size' v' n' xs' := ⟨h', fun _ _ => trivial⟩
  rcases r.ne_type r' hne with e1 | e1
  · rw [hb] at e1; cases e1
  · exact e1 (by rw [hb, e2])
/-- The list is grown by one. -/
theorem AP.app (h : AP w wr F v N V L s1 gv M GV I K B hv g ng i) {gg cap : Nat} (hown : w2.ownsRow 0 3 1 (.slice (some ⟨gg, 0, none⟩) (ng + 1) cap) (ng + 1) (nums (vals i (L i) (ng + 1)))) (hgr : (wr.alloc obj).grownBy w2 g.ownBlock) (hat : g.ownBlock = some gg ∨ gg = wr.heap.size + 1)
    (hk : ∀ b j, b < (wr.alloc obj).heap.size → (g.ownBlock = some b → j < ng * 1) → w2.cell? ⟨b, j, none⟩ = (wr.alloc obj).cell? ⟨b, j, none⟩) : AP w w2 F v N V L s1 gv M GV I K B hv (.slice (some ⟨gg, 0, none⟩) (ng + 1) cap) (ng + 1) i := by
  have o0 : Only (fun _ => False) wr (wr.alloc obj) := (Only.refl _ wr).alloc obj
  have o : Only (fun b => g.ownBlock = some b) wr w2 := (o0.mono fun _ _ h => h.elim).trans ((Only.refl _ _).grown hgr fun k hk => .inl hk) fun _ _ h => h
  have sz := o.size
  have sa : (wr.alloc obj).heap.size = wr.heap.size + 1 := by simp
  have cell (b j : Nat) (hb : b < wr.heap.size) (hj : g.ownBlock = some b → j < ng) : w2.cell? ⟨b, j, none⟩ = wr.cell? ⟨b, j, none⟩ := by
    rw [hk b j (by omega) (fun e => by have := hj e; omega)]
    exact o0.cell hb (fun h => h)
  have hgg : (Value.slice (some ⟨gg, 0, none⟩) (ng + 1) cap).ownBlock = some gg := rfl
  have glt : ∀ b, g.ownBlock = some b → b < wr.heap.size := fun b hb => (h.gown.lt b hb).2
  have gNot : ∀ k, k < N → k ≠ i → ∀ b, (V k).ownBlock = some b → g.ownBlock ≠ some b := fun k hk hne b hb e => by
    rcases h.gat with e1 | ⟨b', e1, e2⟩
    · exact h.ns k i hk h.iN hne b hb (by rw [← e1]; exact e)
    · rw [e] at e1; injection e1 with e1; have := (h.kept k hk b hb).1; omega
  refine ⟨h.heads.only o (fun b hb e => ?_), fun k hk b hb => ?_, fun k hik hk => (h.own k hik hk).only o (fun b hb e => gNot k hk (by omega) b hb e), hown, ?_, by have := h.gl; omega, h.grown.only o (fun b hb e => ?_), h.whose.only o (fun b hb e => h.hg b hb e), fun n hn => ?_, fun b hb e => ?_, h.ns, ?_, ⟨h.s1.1, Nat.le_trans h.s1.2 sz⟩, h.iN⟩
  · exact own_ne h.heads.1 h.gown (by decide) hb e
  · obtain ⟨h1, h2, h3⟩ := h.kept k hk b hb
    refine ⟨h1, h2, fun j hj => ?_⟩
    rw [cell b j (by have := h.s1.2; omega) (fun e => ?_)]
    · exact h3 j hj
    · by_cases hki : k = i
      · subst hki; have := h.gl; omega
      · exact absurd e (gNot k hk hki b hb)
  · rcases hat with e | e
    · rw [hgg, ← e]; exact h.gat
    · right; exact ⟨gg, rfl, by have := h.s1.2; omega⟩
  · exact own_ne h.grown.1 h.gown (by decide) hb e
  · have S := h.st n hn
    refine ⟨S.iN, S.kb, S.form, Nat.lt_of_lt_of_le S.lt sz, fun j hj => ?_, S.at_, fun e => ?_, S.notH, S.notGv⟩
    · rw [cell (B n) j S.lt (fun e => by have := S.notG e; omega)]
      exact S.cells j hj
    · rw [hgg] at e
      injection e with e
      rcases hat with e2 | e2
      · have := S.notG (by rw [e2, e]); omega
      · have := S.lt; omega
  · rw [hgg] at e
    injection e with e
    rcases hat with e2 | e2
    · exact h.hg b hb (by rw [e2, e])
    · have := h.whose.lt hb; omega
  · refine h.only.trans o fun b hb e => ?_
    rcases h.gat with e1 | ⟨b', e1, e2⟩
    · exact (h.kept i h.iN b (by rw [← e1]; exact e)).2.1
    · rw [e] at e1; injection e1 with e1; have := h.s1.1; omega
theorem ofNats_app (a b : List Nat) : ofNats (a ++ b) = ofNats a ++ ofNats b := by simp [ofNats]
theorem map_upd (I : Nat → Nat) (M x : Nat) : (List.range (M + 1)).map (updf I M x) = (List.range M).map I ++ [x] := by
  rw [List.range_succ, List.map_append]
  congr 1
  · apply List.map_congr_left
    intro a ha
    have := List.mem_range.1 ha
    rw [updf_other _ _ _ (by omega)]
  · simp [updf]
/-- A stage more is held. -/
theorem AP.stage {w3 w4 : World} {gv' hv' : Value} {gg cap : Nat} {o3 o4 : Obj} (h : AP w wr F v N V L s1 gv M GV I K B hv (.slice (some ⟨gg, 0, none⟩) ng cap) ng i)
    (hown3 : w3.ownsRow 0 27 1 gv' (M + 1) (Go.Proofs.Ytdpeckfdilpidaa.heads M GV ++ [.slice (some ⟨gg, 0, none⟩) ng cap])) (hgr3 : (wr.alloc o3).grownBy w3 gv.ownBlock) (hat3 : gv'.ownBlock = gv.ownBlock ∨ ∃ b, gv'.ownBlock = some b ∧ wr.heap.size ≤ b)
    (hown4 : w4.ownsRow 0 3 1 hv' (M + 1) (nums (ofNats ((List.range M).map I)) ++ [.int .i64 (i : Int)])) (hgr4 : (w3.alloc o4).grownBy w4 hv.ownBlock) (hat4 : hv'.ownBlock = hv.ownBlock ∨ ∃ b, hv'.ownBlock = some b ∧ w3.heap.size ≤ b) (hng : ng - L i ≤ 90) :
    AP w w4 F v N V L s1 gv' (M + 1) (updf GV M (.slice (some ⟨gg, 0, none⟩) ng cap)) (updf I M i) (updf K M (ng - L i)) (updf B M gg) hv' (.slice (some ⟨gg, 0, none⟩) ng cap) ng i := by
  have q3 : Only (fun b => gv.ownBlock = some b) wr w3 := ((Only.refl _ wr).alloc o3).grown hgr3 fun k hk => .inl hk
  have q4 : Only (fun b => hv.ownBlock = some b) w3 w4 := ((Only.refl _ w3).alloc o4).grown hgr4 fun k hk => .inl hk
  have z3 := q3.size
  have z4 := q4.size
  have q : Only (fun b => gv.ownBlock = some b ∨ hv.ownBlock = some b) wr w4 := (q3.mono fun _ _ e => .inl e).trans q4 fun _ _ e => .inr e
  have hgv : ∀ b, gv.ownBlock = some b → s1 ≤ b ∧ b < wr.heap.size := fun b hb => ⟨h.grown.2 b hb, h.grown.lt hb⟩
  have hhv : ∀ b, hv.ownBlock = some b → s1 ≤ b ∧ b < wr.heap.size := fun b hb => ⟨h.whose.2 b hb, h.whose.lt hb⟩
  have ggv : ∀ b, gv.ownBlock = some b → (Value.slice (some ⟨gg, 0, none⟩) ng cap).ownBlock ≠ some b := fun b hb => own_ne h.grown.1 h.gown (by decide) hb
  have hgg : (Value.slice (some ⟨gg, 0, none⟩) ng cap).ownBlock = some gg := rfl
  have glt : gg < wr.heap.size := (h.gown.lt gg rfl).2
  have hgv' : ∀ b, gv'.ownBlock = some b → s1 ≤ b ∧ (gv.ownBlock = some b ∨ wr.heap.size ≤ b) := fun b hb => by
    rcases hat3 with e | ⟨b', e, e2⟩
    · rw [e] at hb; exact ⟨(hgv b hb).1, .inl hb⟩
    · rw [hb] at e; injection e with e; subst e; exact ⟨by have := h.s1.2; omega, .inr e2⟩
  have hhv' : ∀ b, hv'.ownBlock = some b → s1 ≤ b ∧ (hv.ownBlock = some b ∨ wr.heap.size ≤ b) := fun b hb => by
    rcases hat4 with e | ⟨b', e, e2⟩
    · rw [e] at hb; exact ⟨(hhv b hb).1, .inl hb⟩
    · rw [hb] at e; injection e with e; subst e; exact ⟨by have := h.s1.2; omega, .inr (by omega)⟩
  have whose3 : w3.ownsRow 0 3 1 hv M (nums (ofNats ((List.range M).map I))) := ownsRow_only h.whose.1 q3 fun b hb e => own_ne h.grown.1 h.whose.1 (by decide) e hb
  have nG : ∀ b, (Value.slice (some ⟨gg, 0, none⟩) ng cap).ownBlock = some b → ¬ (gv.ownBlock = some b ∨ hv.ownBlock = some b) := fun b hb e => by
    rcases e with e | e
    · exact ggv b e hb
    · exact h.hg b e hb
  refine ⟨h.heads.only q (fun b hb e => ?_), fun k hk b hb => ?_, fun k hik hk => (h.own k hik hk).only q (fun b hb e => ?_), ownsRow_only h.gown q nG, h.gat, h.gl, ⟨?_, fun b hb => (hgv' b hb).1⟩, ⟨?_, fun b hb => (hhv' b hb).1⟩, fun n hn => ?_, fun b hb => ?_, h.ns, ?_, ⟨h.s1.1, by have := h.s1.2; omega⟩, h.iN⟩
  · have h1 := h.heads.2 b hb
    rcases e with e | e
    · have := (hgv b e).1; omega
    · have := (hhv b e).1; omega
  · obtain ⟨h1, h2, h3⟩ := h.kept k hk b hb
    refine ⟨h1, h2, fun j hj => ?_⟩
    rw [q.cell (by have := h.s1.2; omega) (fun e => by
      rcases e with e | e
      · have := (hgv b e).1; omega
      · have := (hhv b e).1; omega)]
    exact h3 j hj
  · have h1 := (h.own k hik hk).2 b hb
    rcases e with e | e
    · have := (hgv b e).1; omega
    · have := (hhv b e).1; omega
  · rw [← heads_push]
    exact ownsRow_only hown3 q4 fun b hb e => own_ne whose3 hown3 (by decide) e hb
  · have e : nums (ofNats ((List.range (M + 1)).map (updf I M i))) = nums (ofNats ((List.range M).map I)) ++ [.int .i64 (i : Int)] := by
      rw [map_upd, ofNats_app, ← nums_append]; rfl
    rw [e]; exact hown4
  · by_cases hnM : n = M
    · subst hnM
      rw [updf_same, updf_same, updf_same, updf_same]
      have hgl := h.gl
      have hLK : L i + (ng - L i) = ng := by omega
      refine ⟨h.iN, hng, ⟨cap, by rw [hLK]⟩, by omega, fun j hj => ?_, ?_, fun _ => by omega, fun e => ?_, fun e => ?_⟩
      · rw [q.cell glt (nG gg rfl)]
        rw [own_cells h.gown (b := gg) rfl j (by omega)]
        exact vals_at i (L i) ng (by omega)
      · rcases h.gat with e | ⟨b, e, e2⟩
        · left; exact ⟨e.symm.trans hgg, by omega⟩
        · right; rw [hgg] at e; injection e with e; omega
      · rcases (hhv' gg e).2 with e2 | e2
        · exact h.hg gg e2 rfl
        · omega
      · rcases (hgv' gg e).2 with e2 | e2
        · exact ggv gg e2 rfl
        · omega
    · have S := h.st n (by omega)
      rw [updf_other _ _ _ hnM, updf_other _ _ _ hnM, updf_other _ _ _ hnM, updf_other _ _ _ hnM]
      refine ⟨S.iN, S.kb, S.form, by have := S.lt; omega, fun j hj => ?_, S.at_, S.notG, fun e => ?_, fun e => ?_⟩
      · rw [q.cell S.lt (fun e => e.elim S.notGv S.notH)]
        exact S.cells j hj
      · rcases (hhv' _ e).2 with e2 | e2
        · exact S.notH e2
        · have := S.lt; omega
      · rcases (hgv' _ e).2 with e2 | e2
        · exact S.notGv e2
        · have := S.lt; omega
  · intro e
    rcases (hhv' b hb).2 with e2 | e2
    · exact h.hg b e2 e
    · rw [hgg] at e; injection e with e; omega
  · refine h.only.trans q fun b hb e => ?_
    have := h.s1.1
    rcases e with e | e
    · have := (hgv b e).1; omega
    · have := (hhv b e).1; omega
end
/-- Between two lists. -/
structure AO (w wr : World) (F : Nat → Prop) (v : Value) (N : Nat) (V : Nat → Value) (L : Nat → Nat) (s1 : Nat) (gv : Value) (M : Nat) (GV : Nat → Value) (I K B : Nat → Nat) (hv : Value) (i : Nat) : Prop where
  heads : Row wr (fun b => b < s1) 27 1 v N (heads N V)
  kept : ∀ k, k < N → ∀ b, (V k).ownBlock = some b → b < s1 ∧ F b ∧ ∀ j, j < L k → wr.cell? ⟨b, j, none⟩ = some (.int .i64 (val k (L k) j))
  own : ∀ k, i ≤ k → k < N → Row wr (fun b => b < s1) 3 1 (V k) (L k) (nums (vals k (L k) (L k)))
  grown : Row wr (fun b => s1 ≤ b) 27 1 gv M (Go.Proofs.Ytdpeckfdilpidaa.heads M GV)
  whose : Row wr (fun b => s1 ≤ b) 3 1 hv M (nums (ofNats ((List.range M).map I)))
  st : ∀ n, n < M → Stage wr N V L s1 i gv hv (.slice none 0 0) 0 (GV n) (I n) (K n) (B n)
  ns : ∀ k k', k < N → k' < N → k ≠ k' → ∀ b, (V k).ownBlock = some b → (V k').ownBlock ≠ some b
  only : Only F w wr
  s1 : w.heap.size ≤ s1 ∧ s1 ≤ wr.heap.size
section
variable {w wr : World} {F : Nat → Prop} {v gv hv g : Value} {N s1 M ng i : Nat} {V GV : Nat → Value} {L I K B : Nat → Nat}
theorem AO.begin (h : AO w wr F v N V L s1 gv M GV I K B hv i) (hi : i < N) : AP w wr F v N V L s1 gv M GV I K B hv (V i) (L i) i := by
  have ho := h.own i (Nat.le_refl _) hi
  refine ⟨h.heads, h.kept, fun k hk => h.own k (by omega), ho.1, .inl rfl, Nat.le_refl _, h.grown, h.whose, fun n hn => ?_, fun b hb e => ?_, h.ns, h.only, h.s1, hi⟩
  · have S := h.st n hn
    refine ⟨S.iN, S.kb, S.form, S.lt, S.cells, S.at_.imp (fun e => ⟨e.1, by have := e.2; omega⟩) (fun e => e), fun e => ?_, S.notH, S.notGv⟩
    rcases S.at_ with ⟨e1, e2⟩ | e1
    · exact absurd e (h.ns (I n) i S.iN hi (by omega) _ e1)
    · have := (h.kept i hi _ e).1; omega
  · have := h.whose.2 b hb
    have := (h.kept i hi b e).1
    omega
theorem AP.done (h : AP w wr F v N V L s1 gv M GV I K B hv g ng i) : AO w wr F v N V L s1 gv M GV I K B hv (i + 1) :=
  ⟨h.heads, h.kept, fun k hk => h.own k (by omega), h.grown, h.whose, fun n hn => by
    have S := h.st n hn
    exact ⟨S.iN, S.kb, S.form, S.lt, S.cells, S.at_, fun e => by simp [Value.ownBlock] at e, S.notH, S.notGv⟩, h.ns, h.only, h.s1⟩
theorem AO.start (h : LL wr F 27 v N V (fun k => vals k (L k) (L k))) (ho : Only F w wr) : AO w wr F v N V L wr.heap.size (.slice none 0 0) 0 (fun _ => .bool false) (fun _ => 0) (fun _ => 0) (fun _ => 0) (.slice none 0 0) 0 :=
  ⟨h.row.mono fun b hb _ => hb, fun k hk b hb => by
    have r := h.rows k hk
    rw [vals_length] at r
    refine ⟨r.lt hb, r.2 b hb, fun j hj => ?_⟩
    rw [own_cells r.1 hb j (by omega)]
    exact vals_at k (L k) (L k) hj, fun k _ hk => by
    have r := h.rows k hk
    rw [vals_length] at r
    exact r.mono fun b hb _ => hb, by simpa [Go.Proofs.Ytdpeckfdilpidaa.heads] using Row.nil_ _ _ _ _, by simpa [nums, ofNats] using Row.nil_ _ _ _ _, fun n hn => absurd hn (Nat.not_lt_zero _), h.ns, ho, ho.size, Nat.le_refl _⟩
end
end Go.Proofs.Ytdpeckfdilpidaa
