/- Words for memory: which blocks have turned; a block known whole; a map from whole numbers to whole numbers; rows of the call's own. No program here. -/
import Derived.Below
import Derived.Laws.OwnMore
import Derived.Deep.Draws
import Derived.Laws.Rows
import Derived.Maps.Own
import Derived.Maps.OwnOps
import Derived.Maps.OwnSet
import Derived.Maps.Views
import Derived.Maps.AppendAt
import Derived.Deep.AppendLies
import Derived.OwnWalk
set_option linter.unusedVariables false
namespace Go.Proofs.Ytkjfbojmkkdgoaa
open Go.RowKit

/-! ### Only the blocks of F, and new ones, have turned -/
structure Only (F : Nat → Prop) (w w' : World) : Prop where
  os : w'.os = w.os
  tape : w'.tape = w.tape
  output : w'.output = w.output
  size : w.heap.size ≤ w'.heap.size
  block : ∀ k, k < w.heap.size → ¬ F k → w'.heap[k]? = w.heap[k]?
namespace Only
variable {F G : Nat → Prop} {a b c w w' : World}
theorem refl (F : Nat → Prop) (w : World) : Only F w w := ⟨rfl, rfl, rfl, Nat.le_refl _, fun _ _ _ => rfl⟩
theorem trans (h : Only F a b) (k : Only G b c) (hG : ∀ x, x < a.heap.size → G x → F x) : Only F a c :=
  ⟨k.os.trans h.os, k.tape.trans h.tape, k.output.trans h.output, Nat.le_trans h.size k.size,
    fun x hx hf => (k.block x (Nat.lt_of_lt_of_le hx h.size) (fun g => hf (hG x hx g))).trans (h.block x hx hf)⟩
theorem then_ (h : Only F a b) (k : Only F b c) : Only F a c := h.trans k fun _ _ g => g
theorem mono (h : Only F a b) (hG : ∀ x, x < a.heap.size → F x → G x) : Only G a b := ⟨h.os, h.tape, h.output, h.size, fun x hx hf => h.block x hx fun g => hf (hG x hx g)⟩
theorem drew (h : Only F a w) : Only F a w.drew := ⟨h.os, h.tape, h.output, h.size, h.block⟩
theorem drewN (h : Only F a w) (n : Nat) : Only F a (w.drewN n) := ⟨h.os, h.tape, h.output, h.size, h.block⟩
theorem alloc (h : Only F a w) (o : Obj) : Only F a (w.alloc o) :=
  ⟨h.os, h.tape, h.output, Nat.le_trans h.size (by simp), fun i hi hf => (Below.heap_alloc w o i (Nat.lt_of_lt_of_le hi h.size)).trans (h.block i hi hf)⟩
theorem setCell (h : Only F a w) {p : Addr} (hp : F p.block ∨ a.heap.size ≤ p.block) (u : Value) : Only F a (w.setCell p u) :=
  ⟨h.os, h.tape, h.output, by simpa [World.setCell] using h.size, fun i hi hf => (Below.heap_setCell w p u i (by
    rintro rfl
    rcases hp with hp | hp
    · exact hf hp
    · omega)).trans (h.block i hi hf)⟩
theorem grown (h : Only F a w) {row : Option Nat} (hg : w.grownBy w' row) (hr : ∀ k, row = some k → F k ∨ a.heap.size ≤ k) : Only F a w' :=
  ⟨hg.os.trans h.os, hg.tape.trans h.tape, hg.output.trans h.output, Nat.le_trans h.size hg.size, fun i hi hf => (hg.block i (Nat.lt_of_lt_of_le hi h.size) (fun e => by
    rcases hr i e.symm with h1 | h1
    · exact hf h1
    · omega)).trans (h.block i hi hf)⟩
theorem below (h : Only F a w) (hb : Below w.heap.size w w') : Only F a w' :=
  ⟨hb.os.trans h.os, hb.tape.trans h.tape, hb.output.trans h.output, Nat.le_trans h.size hb.size, fun i hi hf => (hb.block i (Nat.lt_of_lt_of_le hi h.size)).trans (h.block i hi hf)⟩
theorem toBelow (h : Only F a w) {B : Nat} (hB : B ≤ a.heap.size) (hF : ∀ k, k < B → ¬ F k) : Below B a w := ⟨h.os, h.tape, h.output, h.size, fun k hk => h.block k (by omega) (hF k hk)⟩
theorem ofBelow (h : Below a.heap.size a w) : Only F a w := ⟨h.os, h.tape, h.output, h.size, fun k hk _ => h.block k hk⟩
theorem cell (h : Only F a w) {b o : Nat} (hb : b < a.heap.size) (hf : ¬ F b) : w.cell? ⟨b, o, none⟩ = a.cell? ⟨b, o, none⟩ := World.cell?_of_block (h.block b hb hf)
end Only
/-- Behind 'Below B', a step that turns only new blocks. -/
theorem below_only {B : Nat} {a b c : World} {F : Nat → Prop} (h : Below B a b) (k : Only F b c) (hF : ∀ x, x < B → ¬ F x) (hB : B ≤ b.heap.size) : Below B a c :=
  h.trans (k.toBelow hB hF)

/-! ### A block that is known whole -/
def Blk (w : World) (g : Nat) (t : TypeId) (cs : Array Value) : Prop := w.heap[g]? = some (.cells cs t (0, 0))
section
variable {w w' : World} {g : Nat} {t : TypeId} {cs : Array Value} {F : Nat → Prop}
theorem Blk.lt (h : Blk w g t cs) : g < w.heap.size := by
  rcases Nat.lt_or_ge g w.heap.size with hlt | hge
  · exact hlt
  · unfold Blk at h; rw [Array.getElem?_eq_none hge] at h; cases h
theorem Blk.cell (h : Blk w g t cs) (i : Nat) : w.cell? ⟨g, i, none⟩ = cs[i]? := cell_of_row w g i cs t (0, 0) h
theorem Blk.frozen (h : Blk w g t cs) (i : Nat) : w.frozen? ⟨g, i, none⟩ = false := by
  unfold Blk at h
  simp [World.frozen?, h]
theorem Blk.new (w : World) (t : TypeId) (cs : Array Value) : Blk (w.alloc (.cells cs t)) w.heap.size t cs := heap_alloc_new w _
theorem Blk.drewN (h : Blk w g t cs) (n : Nat) : Blk (w.drewN n) g t cs := h
theorem Blk.drew (h : Blk w g t cs) : Blk w.drew g t cs := h
theorem Blk.alloc (h : Blk w g t cs) (o : Obj) : Blk (w.alloc o) g t cs := (Below.heap_alloc w o g h.lt).trans h
theorem Blk.set_ (h : Blk w g t cs) (i : Nat) (u : Value) : Blk (w.setCell ⟨g, i, none⟩ u) g t (cs.setIfInBounds i u) := by
  unfold Blk at h ⊢
  simp [World.setCell, Array.getElem?_modify, h]
theorem Blk.far (h : Blk w g t cs) {p : Addr} (hp : g ≠ p.block) (u : Value) : Blk (w.setCell p u) g t cs := (Below.heap_setCell w p u g hp).trans h
theorem Blk.below {B : Nat} (h : Blk w g t cs) (hb : Below B w w') (hg : g < B) : Blk w' g t cs := (hb.block g hg).trans h
theorem Blk.grown {row : Option Nat} (h : Blk w g t cs) (hb : w.grownBy w' row) (hg : some g ≠ row) : Blk w' g t cs := (hb.block g h.lt hg).trans h
theorem Blk.only (h : Blk w g t cs) (hb : Only F w w') (hg : ¬ F g) : Blk w' g t cs := (hb.block g h.lt hg).trans h
theorem Blk.ne_ {g' : Nat} {t' : TypeId} {cs' : Array Value} (h : Blk w g t cs) (h' : Blk w g' t' cs') (hne : t ≠ t') : g ≠ g' := by
  rintro rfl
  unfold Blk at h h'
  rw [h] at h'
  injection h' with h'
  injection h' with _ ht
  exact hne ht
theorem own_blk_ne {base : Nat} {e : TypeId} {size n : Nat} {v : Value} {xs : List Value} (h : w.ownsRow base e size v n xs) (hg : Blk w g t cs) (hne : e ≠ t) : v.ownBlock ≠ some g := by
  rcases h.2 with ⟨rfl, _⟩ | ⟨g', cap, cur, rfl, _, hh, _⟩
  · simp [Value.ownBlock]
  · intro he
    have : g' = g := by simpa [Value.ownBlock] using he
    subst this
    exact Blk.ne_ (t := e) hh hg hne rfl
end

/-! ### A map from ints to ints -/
def i64in (a : Int) : Prop := -9223372036854775808 ≤ a ∧ a ≤ 9223372036854775807
theorem wf_of {a : Int} (h : i64in a) : (Lit.int .i64 a).wf = true := by
  unfold i64in at h
  simp [Lit.wf, IntKind.min, IntKind.max, IntKind.signed, IntKind.bits]
  omega
theorem of_wf {a : Int} (h : (Lit.int .i64 a).wf = true) : i64in a := by
  simpa [i64in, Lit.wf, IntKind.min, IntKind.max, IntKind.signed, IntKind.bits] using h
def upd (f : Int → Option Int) (k v : Int) : Int → Option Int := fun j => if j = k then some v else f j
def IMap (P : Program) (K : TypeId) (w : World) (b n : Nat) (f : Int → Option Int) : Prop :=
  ∃ D : DataW Unit, w.ownsMap P K (plainElem P K) b n D ∧ ∀ k, i64in k → Maps.has D (.int .i64 k) = (f k).isSome ∧ D.atKey (.int .i64 k) (.lit (.int .i64 0)) = .lit (.int .i64 ((f k).getD 0))
section
variable {P : Program} {K T : TypeId} {w w' : World} {b n : Nat} {f : Int → Option Int} {F : Nat → Prop}
theorem IMap.made (P : Program) (K : TypeId) (w : World) : IMap P K (w.alloc (.map #[] 0)) w.heap.size 0 (fun _ => none) :=
  ⟨.map [], World.ownsMap_made w P K _, fun k _ => ⟨rfl, rfl⟩⟩
theorem IMap.mono (h : IMap P K w b n f) {n' : Nat} (hn : n ≤ n') : IMap P K w b n' f := let ⟨D, h1, h2⟩ := h; ⟨D, h1.mono hn, h2⟩
theorem IMap.lt (h : IMap P K w b n f) : b < w.heap.size := let ⟨_, h1, _⟩ := h; h1.lt
theorem IMap.grown {row : Option Nat} (h : IMap P K w b n f) (hg : w.grownBy w' row) (hne : some b ≠ row) : IMap P K w' b n f := let ⟨D, h1, h2⟩ := h; ⟨D, h1.kept hg hne, h2⟩
theorem IMap.alloc (h : IMap P K w b n f) (o : Obj) : IMap P K (w.alloc o) b n f := let ⟨D, h1, h2⟩ := h; ⟨D, h1.alloc o, h2⟩
theorem IMap.drewN (h : IMap P K w b n f) (k : Nat) : IMap P K (w.drewN k) b n f := h
theorem IMap.far (h : IMap P K w b n f) {a : Addr} (ha : b ≠ a.block) (u : Value) : IMap P K (w.setCell a u) b n f := let ⟨D, h1, h2⟩ := h; ⟨D, h1.setCell ha u, h2⟩
theorem IMap.only (h : IMap P K w b n f) (ho : Only F w w') (hb : ¬ F b) : IMap P K w' b n f := by
  have hlt := h.lt
  obtain ⟨D, ⟨es, clock, hb', F1, hs, hD⟩, h2⟩ := h
  exact ⟨D, ⟨es, clock, (ho.block b hlt hb).trans hb', F1, hs, hD⟩, h2⟩
theorem IMap.ne_blk (h : IMap P K w b n f) {g : Nat} {t : TypeId} {cs : Array Value} (hg : Blk w g t cs) : b ≠ g := by
  rintro rfl
  obtain ⟨D, ⟨es, clock, hb', _⟩, _⟩ := h
  unfold Blk at hg
  rw [hb'] at hg
  cases hg
theorem IMap.congr {f' : Int → Option Int} (h : IMap P K w b n f) (he : ∀ k, i64in k → f k = f' k) : IMap P K w b n f' := by
  obtain ⟨D, h1, h2⟩ := h
  exact ⟨D, h1, fun k hk => by rw [← he k hk]; exact h2 k hk⟩
theorem IMap.look (h : IMap P K w b n f) (hT : P.underlying T = some (.map K K)) (hK : P.underlying K = some (.int .i64)) (hz : (zeroValue K).run P w = .ok (.int .i64 0) w) {k : Int} (hk : i64in k) :
    (Instr.lookup T (.map (some b)) (.int .i64 k) false).run P w = .ok (.int .i64 ((f k).getD 0)) w := by
  obtain ⟨D, h1, h2⟩ := h
  obtain ⟨c, hrun, hat, _⟩ := h1.lookup_int (t := T) (Maps.int_keyed hK) hT hK hz (Maps.keyOf_int_mk hK (wf_of hk))
  rw [(h2 k hk).2] at hat
  rw [hrun]
  injection hat with hat
  injection hat with _ hat
  rw [hat]
theorem IMap.look_ok (h : IMap P K w b n f) (hT : P.underlying T = some (.map K K)) (hK : P.underlying K = some (.int .i64)) (hz : (zeroValue K).run P w = .ok (.int .i64 0) w) {k : Int} (hk : i64in k) :
    (Instr.lookup T (.map (some b)) (.int .i64 k) true).run P w = .ok (.tuple #[.int .i64 ((f k).getD 0), .bool (f k).isSome]) w := by
  obtain ⟨D, h1, h2⟩ := h
  obtain ⟨v, ps, hrun, hv⟩ := h1.look_ok (t := T) (Maps.int_keyed hK) hT hz (plainElem_int hK (by decide)) (Maps.keyOf_int_mk hK (wf_of hk))
  obtain ⟨c, rfl, hc, _⟩ := plainElem_int_inv hK hv
  rw [(h2 k hk).1] at hrun
  simp only [Prod.mk.injEq] at hc
  have hat := hc.1
  rw [(h2 k hk).2] at hat
  injection hat with hat
  injection hat with _ hat
  rw [hrun, hat]
end
section
variable {P : Program} {K : TypeId} {w : World} {b n : Nat} {f : Int → Option Int}
/-- 'm[k] = v' at the operation, for the walk. -/
theorem wpList_put {ops : Array Oper} {rest : List Oper} {o : Oper} {a : Act} {Q : Exit → Act → World → Prop}
    (hg : o.guard = none) (m x v : Operand) (T : TypeId) (hop : o.op = Op.mapUpdate T m x v) (hT : P.underlying T = some (.map K K)) (hK : P.underlying K = some (.int .i64))
    (h : IMap P K w b n f) (hm : a.eval m = .map (some b)) (hn : n < maxLen) (k y : Int) (hx : a.eval x = .int .i64 k) (hv : a.eval v = .int .i64 y) (hk : i64in k) (hy : i64in y)
    (hW : ∀ w', IMap P K w' b (n + 1) (upd f k y) → w.grownBy w' (some b) → wpList P ops Q rest (a.put o.dst undef) w') : wpList P ops Q (o :: rest) a w := by
  obtain ⟨D, h1, h2⟩ := h
  refine wpList_mapUpdate_own w hg m x v T hop K K (Maps.int_keyed hK) hT (plainElem P K) b n D hm h1 hn _ _ _ hx hv (Maps.keyOf_int_mk hK (wf_of hk)) _ [] (plainElem_int hK (wf_of hy)) ?_
  intro w1 hown hgrow
  have hM : Maps.IsMap D := h1.isMap
  have hL : WideAt.IsKeyLit (.int .i64 k) := by
    first | exact trivial | simp [WideAt.IsKeyLit]
  refine hW w1 ⟨_, hown, fun j hj => ?_⟩ hgrow
  by_cases he : j = k
  · subst he
    rw [Maps.has_put_same hM hL, Maps.atKey_put_same hM hL]
    simp [upd]
  · have hne : (Lit.int .i64 j) ≠ .int .i64 k := fun e => he (by injection e)
    rw [Maps.has_put_other hne, Maps.atKey_put_other hne]
    simp only [upd, if_neg he]
    exact h2 j hj
end

/-! ### Rows of the call's own, with their footprint -/
def Row (w : World) (F : Nat → Prop) (e : TypeId) (size : Nat) (v : Value) (n : Nat) (xs : List Value) : Prop :=
  w.ownsRow 0 e size v n xs ∧ ∀ b, v.ownBlock = some b → F b
def nums (xs : List Int) : List Value := xs.map (Value.int .i64)
section
variable {w w' : World} {F G : Nat → Prop} {e : TypeId} {size n : Nat} {v : Value} {xs : List Value}
theorem Row.nil_ (w : World) (F : Nat → Prop) (e : TypeId) (size : Nat) : Row w F e size (.slice none 0 0) 0 [] := ⟨World.ownsRow_nil w 0 e size, by simp [Value.ownBlock]⟩
theorem Row.lt (h : Row w F e size v n xs) {b : Nat} (hb : v.ownBlock = some b) : b < w.heap.size := (h.1.lt b hb).2
theorem Row.mono (h : Row w F e size v n xs) (hG : ∀ b, b < w.heap.size → F b → G b) : Row w G e size v n xs := ⟨h.1, fun b hb => hG b (h.lt hb) (h.2 b hb)⟩
theorem Row.grown {row : Option Nat} (h : Row w F e size v n xs) (hg : w.grownBy w' row) (hne : v.ownBlock = none ∨ v.ownBlock ≠ row) : Row w' F e size v n xs := ⟨h.1.kept hg hne, h.2⟩
theorem Row.only (h : Row w F e size v n xs) (ho : Only G w w') (hne : ∀ b, v.ownBlock = some b → ¬ G b) : Row w' F e size v n xs := by
  refine ⟨⟨h.1.1, ?_⟩, h.2⟩
  rcases h.1.2 with h0 | ⟨g, cap, cur, rfl, hb, hh, r⟩
  · exact .inl h0
  · exact .inr ⟨g, cap, cur, rfl, hb, (ho.block g (h.lt rfl) (hne g rfl)).trans hh, r⟩
theorem Row.alloc (h : Row w F e size v n xs) (o : Obj) : Row (w.alloc o) F e size v n xs := ⟨h.1.alloc o, h.2⟩
theorem Row.drewN (h : Row w F e size v n xs) (k : Nat) : Row (w.drewN k) F e size v n xs := h
theorem Row.far (h : Row w F e size v n xs) {p : Addr} (hp : v.ownBlock ≠ some p.block) (u : Value) : Row (w.setCell p u) F e size v n xs := by
  refine ⟨⟨h.1.1, ?_⟩, h.2⟩
  rcases h.1.2 with h0 | ⟨g, cap, cur, rfl, hb, hh, r⟩
  · exact .inl h0
  · exact .inr ⟨g, cap, cur, rfl, hb, (Below.heap_setCell w p u g (fun e => hp (by rw [← e]; rfl))).trans hh, r⟩
theorem Row.below (h : Row w F e size v n xs) (hb : Below w.heap.size w w') : Row w' F e size v n xs := h.only (Only.ofBelow (F := fun _ => False) hb) fun _ _ h => h
theorem Row.len (h : Row w F e size v n xs) : xs.length = n * size := h.1.1
theorem Row.form (h : Row w F e size v n xs) (hn : 0 < n) : ∃ g cap, v = .slice (some ⟨g, 0, none⟩) n cap ∧ F g ∧ g < w.heap.size ∧ n ≤ cap := by
  rcases h.1.2 with ⟨_, h0⟩ | ⟨g, cap, cur, hv, hb, hg, hnc, _⟩
  · omega
  · refine ⟨g, cap, hv, h.2 g (by rw [hv]; rfl), h.lt (by rw [hv]; rfl), hnc⟩
/-- Whatever its length. -/
theorem Row.shape (h : Row w F e size v n xs) : ∃ A cap, v = .slice A n cap ∧ n ≤ cap := by
  rcases h.1.2 with ⟨rfl, rfl⟩ | ⟨g, cap, cur, rfl, _, _, hnc, _⟩
  · exact ⟨none, 0, rfl, Nat.le_refl _⟩
  · exact ⟨_, cap, rfl, hnc⟩
theorem Row.cell {g cap : Nat} (h : Row w F e size (.slice (some ⟨g, 0, none⟩) n cap) n xs) {i : Nat} {u : Value} (hi : xs[i]? = some u) : w.cell? ⟨g, i, none⟩ = some u := by
  have := h.1.cells (g := g) rfl i u hi
  rwa [show (⟨g, 0, none⟩ : Addr).add i = ⟨g, i, none⟩ from by unfold Addr.add; split <;> simp_all] at this
theorem Row.frozen {g cap : Nat} (h : Row w F e size (.slice (some ⟨g, 0, none⟩) n cap) n xs) (i : Nat) : w.frozen? ⟨g, i, none⟩ = false := by
  rcases h.1.2 with ⟨h0, _⟩ | ⟨g', cap', cur, h0, _, hh, _⟩
  · cases h0
  · have : g = g' := by injection h0 with h0; injection h0 with h0; injection h0 with h0
    subst this
    simp [World.frozen?, hh]
theorem Row.stored {g cap : Nat} (h : Row w F e size (.slice (some ⟨g, 0, none⟩) n cap) n xs) (i : Nat) (u : Value) : Row (w.setCell ⟨g, i, none⟩ u) F e size (.slice (some ⟨g, 0, none⟩) n cap) n (xs.set i u) :=
  ⟨(h.1.stored i u).1, h.2⟩
theorem Row.ne_type {e' : TypeId} {size' n' : Nat} {v' : Value} {xs' : List Value} (h : Row w F e size v n xs) (h' : Row w G e' size' v' n' xs') (hne : e ≠ e') : v.ownBlock = none ∨ v.ownBlock ≠ v'.ownBlock := by
  rcases h.1.2 with ⟨rfl, _⟩ | ⟨g, cap, cur, rfl, _, hh, _⟩
  · exact .inl rfl
  · refine .inr fun hk => ?_
    rcases h'.1.2 with ⟨rfl, _⟩ | ⟨g', cap', cur', rfl, _, hh', _⟩
    · simp [Value.ownBlock] at hk
    · have : g = g' := by simpa [Value.ownBlock] using hk
      subst this
      rw [hh] at hh'
      injection hh' with hh'
      injection hh' with _ ht
      exact hne ht
theorem Row.ne_map {P : Program} {K : TypeId} {b m : Nat} {f : Int → Option Int} (h : Row w F e size v n xs) (h' : IMap P K w b m f) : v.ownBlock ≠ some b := by
  intro hb
  obtain ⟨D, ⟨es, clock, hb', _⟩, _⟩ := h'
  rcases h.1.2 with ⟨rfl, _⟩ | ⟨g, cap, cur, rfl, _, hh, _⟩
  · simp [Value.ownBlock] at hb
  · have : g = b := by simpa [Value.ownBlock] using hb
    subst this
    rw [hh] at hb'
    cases hb'
end
theorem nums_length (xs : List Int) : (nums xs).length = xs.length := by simp [nums]
theorem nums_get (xs : List Int) (i : Nat) (h : i < xs.length) : (nums xs)[i]? = some (.int .i64 (xs.getD i 0)) := by
  simp [nums, List.getElem?_eq_getElem h, List.getD_eq_getElem?_getD]
theorem nums_set (xs : List Int) (i : Nat) (x : Int) : (nums xs).set i (.int .i64 x) = nums (xs.set i x) := by simp [nums, List.map_set]
theorem nums_append (xs ys : List Int) : nums xs ++ nums ys = nums (xs ++ ys) := by simp [nums]
end Go.Proofs.Ytkjfbojmkkdgoaa
