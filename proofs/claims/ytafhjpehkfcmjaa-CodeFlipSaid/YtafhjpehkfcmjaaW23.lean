/- the readers' rows; what a reader keeps. -/
import Derived.Test.YtafhjpehkfcmjaaW22
set_option linter.unusedVariables false
set_option linter.unusedSimpArgs false
namespace Go.Proofs.Ytafhjpehkfcmjaa
open Go.RowKit
def insCells (xs : List Ins) : List Value := xs.flatMap fun x => [.int .i64 x.op, .int .i64 x.a, .int .i64 x.b, .int .i64 x.c, .int .i64 x.n]
def fnCells (fs : List Fn) : List Value := fs.flatMap fun f => [.string f.name, .int .i64 f.frame, .int .i64 f.first, .int .i64 f.count, .int .i64 f.params]
def dIns : Ins := ⟨0, 0, 0, 0, 0⟩
def dFn : Fn := ⟨⟨#[]⟩, 0, 0, 0, 0⟩
def insF (xs : List Ins) (i : Nat) : Ins := xs.getD i dIns
def fnF (fs : List Fn) (i : Nat) : Fn := fs.getD i dFn
theorem insCells_append (xs ys : List Ins) : insCells (xs ++ ys) = insCells xs ++ insCells ys := List.flatMap_append
theorem fnCells_append (xs ys : List Fn) : fnCells (xs ++ ys) = fnCells xs ++ fnCells ys := List.flatMap_append
theorem insCells_length : ∀ xs, (insCells xs).length = xs.length * 5
  | [] => rfl
  | x :: xs => by
    have := insCells_length xs
    simp only [insCells, List.flatMap_cons, List.length_append, List.length_cons, List.length_nil] at this ⊢
    omega
theorem fnCells_length : ∀ xs, (fnCells xs).length = xs.length * 5
  | [] => rfl
  | x :: xs => by
    have := fnCells_length xs
    simp only [fnCells, List.flatMap_cons, List.length_append, List.length_cons, List.length_nil] at this ⊢
    omega
theorem insCells_get : ∀ (xs : List Ins) (i : Nat), i < xs.length → (insCells xs)[i * 5]? = some (.int .i64 (insF xs i).op) ∧ (insCells xs)[i * 5 + 1]? = some (.int .i64 (insF xs i).a) ∧ (insCells xs)[i * 5 + 2]? = some (.int .i64 (insF xs i).b) ∧ (insCells xs)[i * 5 + 3]? = some (.int .i64 (insF xs i).c) ∧ (insCells xs)[i * 5 + 4]? = some (.int .i64 (insF xs i).n)
  | [], i, h => by simp at h
  | x :: xs, 0, _ => ⟨rfl, rfl, rfl, rfl, rfl⟩
  | x :: xs, i + 1, h => by
    have := insCells_get xs i (by simpa using h)
    have e : ∀ k, (insCells (x :: xs))[(i + 1) * 5 + k]? = (insCells xs)[i * 5 + k]? := fun k => by
      rw [show (i + 1) * 5 + k = (i * 5 + k) + 5 by omega]; rfl
    exact ⟨(e 0).trans this.1, (e 1).trans this.2.1, (e 2).trans this.2.2.1, (e 3).trans this.2.2.2.1, (e 4).trans this.2.2.2.2⟩
theorem fnCells_get : ∀ (xs : List Fn) (i : Nat), i < xs.length → (fnCells xs)[i * 5]? = some (.string (fnF xs i).name) ∧ (fnCells xs)[i * 5 + 1]? = some (.int .i64 (fnF xs i).frame) ∧ (fnCells xs)[i * 5 + 2]? = some (.int .i64 (fnF xs i).first) ∧ (fnCells xs)[i * 5 + 3]? = some (.int .i64 (fnF xs i).count) ∧ (fnCells xs)[i * 5 + 4]? = some (.int .i64 (fnF xs i).params)
  | [], i, h => by simp at h
  | x :: xs, 0, _ => ⟨rfl, rfl, rfl, rfl, rfl⟩
  | x :: xs, i + 1, h => by
    have := fnCells_get xs i (by simpa using h)
    have e : ∀ k, (fnCells (x :: xs))[(i + 1) * 5 + k]? = (fnCells xs)[i * 5 + k]? := fun k => by
      rw [show (i + 1) * 5 + k = (i * 5 + k) + 5 by omega]; rfl
    exact ⟨(e 0).trans this.1, (e 1).trans this.2.1, (e 2).trans this.2.2.1, (e 3).trans this.2.2.2.1, (e 4).trans this.2.2.2.2⟩
/-- Rows of the call's own. -/
def IR (w : World) (H : Nat) (v : Value) (xs : List Ins) : Prop := w.ownsRow H 41 5 v xs.length (insCells xs)
def FR (w : World) (H : Nat) (v : Value) (fs : List Fn) : Prop := w.ownsRow H 53 5 v fs.length (fnCells fs)
theorem own_only {w w' : World} {base : Nat} {e : TypeId} {size n : Nat} {v : Value} {xs : List Value} {F : Nat → Prop} (h : w.ownsRow base e size v n xs) (o : Only F w w') (hne : ∀ b, v.ownBlock = some b → ¬ F b) : w'.ownsRow base e size v n xs := by
  refine ⟨h.1, ?_⟩
  rcases h.2 with h0 | ⟨g, cap, cur, rfl, hb, hh, r⟩
  · exact .inl h0
  · exact .inr ⟨g, cap, cur, rfl, hb, (o.block g ((World.ownsRow.lt h g rfl).2) (hne g rfl)).trans hh, r⟩
theorem own_mono {w : World} {base base' : Nat} {e : TypeId} {size n : Nat} {v : Value} {xs : List Value} (h : w.ownsRow base e size v n xs) (hH : base' ≤ base) : w.ownsRow base' e size v n xs := by
  refine ⟨h.1, ?_⟩
  rcases h.2 with h0 | ⟨g, cap, cur, e, hb, r⟩
  · exact .inl h0
  · exact .inr ⟨g, cap, cur, e, Nat.le_trans hH hb, r⟩
theorem own_shape {w : World} {base : Nat} {e : TypeId} {size n : Nat} {v : Value} {xs : List Value} (h : w.ownsRow base e size v n xs) : ∃ A cap, v = .slice A n cap ∧ n ≤ cap ∧ cap ≤ maxLen ∧ (0 < n → ∃ g, A = some ⟨g, 0, none⟩ ∧ base ≤ g ∧ g < w.heap.size ∧ v.ownBlock = some g) := by
  rcases h.2 with ⟨rfl, h0⟩ | ⟨g, cap, cur, rfl, hb, hh, hnc, hcm, _⟩
  · exact ⟨none, 0, by rw [h0], by omega, by unfold maxLen; omega, fun h => by omega⟩
  · exact ⟨_, cap, rfl, hnc, hcm, fun _ => ⟨g, rfl, hb, (World.ownsRow.lt h g rfl).2, rfl⟩⟩
theorem IR.il {w : World} {H n cap : Nat} {A : Option Addr} {xs : List Ins} (h : IR w H (.slice A n cap) xs) (hx : ∀ x, x ∈ xs → InsIn x) (hl : xs.length ≤ 9223372036854775807) : IL w (fun b => H ≤ b) A xs.length (insF xs) := by
  refine ⟨hl, fun i hi => ?_⟩
  obtain ⟨A', cap', e, _, _, hg⟩ := own_shape h
  obtain ⟨g, rfl, hb, hlt, _⟩ := hg (by omega)
  injection e with e1 e2 e3
  subst e1 e2
  obtain ⟨c0, c1, c2, c3, c4⟩ := insCells_get xs i hi
  have k := fun j (hj : j < 5) => World.ownsRow.cellAt h (i * 5 + j) (by omega)
  refine ⟨hx _ ?_, g, 0, rfl, hb, hlt, ?_, ?_, ?_, ?_, ?_⟩
  · unfold insF; rw [List.getD_eq_getElem?_getD, List.getElem?_eq_getElem hi]; exact List.getElem_mem hi
  · rw [Nat.zero_add]; exact (k 0 (by omega)).trans c0
  · rw [Nat.zero_add]; exact (k 1 (by omega)).trans c1
  · rw [Nat.zero_add]; exact (k 2 (by omega)).trans c2
  · rw [Nat.zero_add]; exact (k 3 (by omega)).trans c3
  · rw [Nat.zero_add]; exact (k 4 (by omega)).trans c4
theorem FR.cells {w : World} {H n cap g : Nat} {fs : List Fn} (h : FR w H (.slice (some ⟨g, 0, none⟩) n cap) fs) (i : Nat) (hi : i < fs.length) :
    w.cell? ⟨g, i * 5, none⟩ = some (.string (fnF fs i).name) ∧ w.cell? ⟨g, i * 5 + 1, none⟩ = some (.int .i64 (fnF fs i).frame) ∧ w.cell? ⟨g, i * 5 + 2, none⟩ = some (.int .i64 (fnF fs i).first) ∧ w.cell? ⟨g, i * 5 + 3, none⟩ = some (.int .i64 (fnF fs i).count) ∧ w.cell? ⟨g, i * 5 + 4, none⟩ = some (.int .i64 (fnF fs i).params) := by
  obtain ⟨A', cap', e, _, _, _⟩ := own_shape h
  injection e with e1 e2 e3
  subst e2
  obtain ⟨c0, c1, c2, c3, c4⟩ := fnCells_get fs i hi
  have k := fun j (hj : j < 5) => World.ownsRow.cellAt h (i * 5 + j) (by omega)
  exact ⟨(k 0 (by omega)).trans c0, (k 1 (by omega)).trans c1, (k 2 (by omega)).trans c2, (k 3 (by omega)).trans c3, (k 4 (by omega)).trans c4⟩
theorem FR.fl {w : World} {H n cap : Nat} {A : Option Addr} {fs : List Fn} (h : FR w H (.slice A n cap) fs) (hx : ∀ x, x ∈ fs → FnIn x ∧ x.name.size ≤ 9223372036854775807) (hl : fs.length ≤ 9223372036854775807) : FL w (fun b => H ≤ b) A fs.length (fnF fs) := by
  refine ⟨hl, fun i hi => ?_⟩
  obtain ⟨A', cap', e, _, _, hg⟩ := own_shape h
  obtain ⟨g, rfl, hb, hlt, _⟩ := hg (by omega)
  injection e with e1 e2 e3
  subst e1
  obtain ⟨c0, c1, c2, c3, c4⟩ := FR.cells h i hi
  have hm : fnF fs i ∈ fs := by unfold fnF; rw [List.getD_eq_getElem?_getD, List.getElem?_eq_getElem hi]; exact List.getElem_mem hi
  exact ⟨(hx _ hm).1, (hx _ hm).2, g, 0, rfl, hb, hlt, by rw [Nat.zero_add]; exact c0, by rw [Nat.zero_add]; exact c1, by rw [Nat.zero_add]; exact c2, by rw [Nat.zero_add]; exact c3, by rw [Nat.zero_add]; exact c4⟩
def nameIn (fs : List Fn) (l : List UInt8) : Bool := fs.any fun f => decide (f.name.data.toList = l)
theorem nameIn_iff (fs : List Fn) (s : ByteArray) : nameIn fs s.data.toList = true ↔ ∃ f, f ∈ fs ∧ f.name = s := by
  unfold nameIn
  rw [List.any_eq_true]
  exact ⟨fun ⟨f, h1, h2⟩ => ⟨f, h1, name_eq.2 (of_decide_eq_true h2)⟩, fun ⟨f, h1, h2⟩ => ⟨f, h1, decide_eq_true (name_eq.1 h2)⟩⟩
theorem nameIn_snoc (fs : List Fn) (f : Fn) (l : List UInt8) : (if l = f.name.data.toList then true else nameIn fs l) = nameIn (fs ++ [f]) l := by
  unfold nameIn
  rw [List.any_append]
  by_cases h : l = f.name.data.toList
  · rw [if_pos h]; simp [h]
  · rw [if_neg h]; simp [show ¬ f.name.data.toList = l from fun e => h e.symm]
theorem SMap.only {P : Program} {K E : TypeId} {w w' : World} {b n : Nat} {f : List UInt8 → Bool} {F : Nat → Prop} (h : SMap P K E w b n f) (ho : Only F w w') (hb : ¬ F b) : SMap P K E w' b n f := by
  have hlt := h.lt
  obtain ⟨D, ⟨es, clock, hb', F1, hs, hD⟩, h2⟩ := h
  exact ⟨D, ⟨es, clock, (ho.block b hlt hb).trans hb', F1, hs, hD⟩, h2⟩
theorem SMap.ne_blk {P : Program} {K E : TypeId} {w : World} {b n : Nat} {f : List UInt8 → Bool} (h : SMap P K E w b n f) {g : Nat} {t : TypeId} {cs : Array Value} (hg : Blk w g t cs) : b ≠ g := by
  rintro rfl
  obtain ⟨D, ⟨es, clock, hb', _⟩, _⟩ := h
  unfold Blk at hg
  rw [hb'] at hg
  cases hg
theorem SMap.ne_own {P : Program} {K E : TypeId} {w : World} {b n : Nat} {f : List UInt8 → Bool} (h : SMap P K E w b n f) {base : Nat} {e : TypeId} {size k : Nat} {v : Value} {xs : List Value} (hv : w.ownsRow base e size v k xs) : v.ownBlock ≠ some b := by
  intro he
  obtain ⟨D, ⟨es, clock, hb', _⟩, _⟩ := h
  rcases hv.2 with ⟨rfl, _⟩ | ⟨g, cap, cur, rfl, _, hh, _⟩
  · simp [Value.ownBlock] at he
  · have : g = b := by simpa [Value.ownBlock] using he
    subst this
    rw [hb'] at hh
    cases hh
theorem own_ne_own {w : World} {b1 b2 : Nat} {e1 e2 : TypeId} {s1 s2 n1 n2 : Nat} {v1 v2 : Value} {x1 x2 : List Value} (h1 : w.ownsRow b1 e1 s1 v1 n1 x1) (h2 : w.ownsRow b2 e2 s2 v2 n2 x2) (hne : e1 ≠ e2) (g : Nat) : v1.ownBlock = some g → ¬ v2.ownBlock = some g := by
  intro a1 a2
  rcases h1.2 with ⟨rfl, _⟩ | ⟨g1, _, _, rfl, _, hh1, _⟩
  · simp [Value.ownBlock] at a1
  rcases h2.2 with ⟨rfl, _⟩ | ⟨g2, _, _, rfl, _, hh2, _⟩
  · simp [Value.ownBlock] at a2
  have e1 : g1 = g := by simpa [Value.ownBlock] using a1
  have e2 : g2 = g := by simpa [Value.ownBlock] using a2
  subst e1 e2
  rw [hh1] at hh2
  injection hh2 with hh2
  injection hh2 with _ ht
  exact hne ht
/-- What code's reader keeps. -/
structure RM (w : World) (H : Nat) (G : Nat → Prop) (A : Option Addr) (L c : Nat) (Bf : Nat → UInt8) (r mb : Nat) (iv fv : Value) (xs : List Ins) (fs : List Fn) (mn : Nat) (mf : List UInt8 → Bool) (p : Nat) (bad : Bool) (m : Int) : Prop where
  b : Blk w r 67 (rcells (.slice A L c) p bad iv fv m mb)
  bl : BL w G A L Bf
  im : IR w H iv xs
  fm : FR w H fv fs
  mp : SMap Try.prog 9 3 w mb mn mf
  hr : H ≤ r
  hmb : H ≤ mb
section
variable {w w' : World} {H : Nat} {G : Nat → Prop} {A : Option Addr} {L c : Nat} {Bf : Nat → UInt8} {r mb : Nat} {iv fv : Value} {xs : List Ins} {fs : List Fn} {mn : Nat} {mf : List UInt8 → Bool} {p p' : Nat} {bad bad' : Bool} {m m' : Int}
theorem RM.gr (hG : ∀ b, G b → b < H) (h : RM w H G A L c Bf r mb iv fv xs fs mn mf p bad m) : ¬ G r := fun g => by have := hG r g; have := h.hr; omega
theorem RM.turn (hG : ∀ b, G b → b < H) (h : RM w H G A L c Bf r mb iv fv xs fs mn mf p bad m) (o : Only (fun b => b = r) w w') (hb : Blk w' r 67 (rcells (.slice A L c) p' bad' iv fv m' mb)) : RM w' H G A L c Bf r mb iv fv xs fs mn mf p' bad' m' :=
  ⟨hb, h.bl.only o (fun b _ hg e => h.gr hG (e ▸ hg)), own_only h.im o (fun b hb e => own_blk_ne h.im h.b (by decide) (e ▸ hb)), own_only h.fm o (fun b hb e => own_blk_ne h.fm h.b (by decide) (e ▸ hb)), h.mp.only o (fun e => h.mp.ne_blk h.b e), h.hr, h.hmb⟩
theorem RM.quiet (h : RM w H G A L c Bf r mb iv fv xs fs mn mf p bad m) (o : Only (fun _ => False) w w') : RM w' H G A L c Bf r mb iv fv xs fs mn mf p bad m :=
  ⟨h.b.only o (fun h => h), h.bl.only o (fun _ _ _ h => h), own_only h.im o (fun _ _ h => h), own_only h.fm o (fun _ _ h => h), h.mp.only o (fun h => h), h.hr, h.hmb⟩
theorem RM.number (hG : ∀ b, G b → b < H) (h : RM w H G A L c Bf r mb iv fv xs fs mn mf p bad m) (hp : p ≤ L) (hL : L ≤ 300000000) (hc : L ≤ c) (hc2 : c ≤ 9223372036854775807) {n lo hi : Nat} (hn : 1 ≤ n) (hn2 : n ≤ 8) (hlo : lo < 18446744073709551616) (hhi : hi < 18446744073709551616) {ni li hi' : Int} (e1 : ni = (n : Int)) (e2 : li = (lo : Int)) (e3 : hi' = (hi : Int)) :
    Calls Try.prog 28 #[.pointer (some ⟨r, 0, none⟩), .int .i64 ni, .int .u64 li, .int .u64 hi'] w fun e w' => ∃ v p' bad', e = .returned (.int .i64 v) ∧ i64in v ∧ RM w' H G A L c Bf r mb iv fv xs fs mn mf p' bad' m ∧ Only (fun b => b = r) w w' ∧ NumR Bf L n lo hi p bad p' bad' v := by
  subst e1 e2 e3
  refine (rdnumber_c w G A L c Bf r iv fv m mb p bad n lo hi h.b h.bl (h.gr hG) hp hL hc hc2 hn hn2 hlo hhi).mono ?_
  rintro e w' ⟨v, p', bad', rfl, hv, hb, ho, hR⟩
  exact ⟨v, p', bad', rfl, hv, h.turn hG ho hb, ho, hR⟩
end
theorem NumR.le {Bf : Nat → UInt8} {L n lo hi p : Nat} {bad : Bool} {p' : Nat} {bad' : Bool} {v : Int} (h : NumR Bf L n lo hi p bad p' bad' v) (hp : p ≤ L) : p' ≤ L := by
  rcases h with ⟨_, _, rfl⟩ | ⟨_, _, h, _⟩ | ⟨_, _, rfl, h, _⟩ <;> omega
end Go.Proofs.Ytafhjpehkfcmjaa
