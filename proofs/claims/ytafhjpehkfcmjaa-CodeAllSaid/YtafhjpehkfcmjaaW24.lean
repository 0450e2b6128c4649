/- the readers' rows; what a reader keeps. code's reader: what function keeps. -/
import Derived.Test.YtafhjpehkfcmjaaW22
import Derived.Laws.BytesString
import Derived.Laws.Cells
set_option linter.unusedVariables false
set_option linter.unusedSimpArgs false
namespace Go.Proofs.Ytafhjpehkfcmjaa
open Go.RowKit
def insCells (xs : List Ins) : List Value := xs.flatMap fun x => [.int .i64 x.op, .int .i64 x.a, .int .i64 x.b, .int .i64 x.c, .int .i64 x.n]
def fnCells (fs : List Fn) : List Value := fs.flatMap fun f => [.string f.name, .int .i64 f.frame, .int .i64 f.first, .int .i64 f.count, .int .i64 f.params]
def dIns : Ins := ⟨0, 0, 0, 0, 0⟩
def dFn : Fn := ⟨⟨#[]⟩, 0, 0, 0, 0⟩
def insF (xs : List Ins) (i : Nat) : Ins := xs.getD i dIns
def fnF (fs : List Fn) (i : Nat) : Fn := fs.getD i dFn
theorem insCells_append (xs ys : List Ins) : insCells (xs ++ ys) = insCells xs ++ insCells ys := List.flatMap_append
theorem fnCells_append (xs ys : List Fn) : fnCells (xs ++ ys) = fnCells xs ++ fnCells ys := List.flatMap_append
theorem insCells_length : ∀ xs, (insCells xs).length = xs.length * 5
  | [] => rfl
  | x :: xs => by
    have := insCells_length xs
    simp only [insCells, List.flatMap_cons, List.length_append, List.length_cons, List.length_nil] at this ⊢
    omega
theorem fnCells_length : ∀ xs, (fnCells xs).length = xs.length * 5
  | [] => rfl
  | x :: xs => by
    have := fnCells_length xs
    simp only [fnCells, List.flatMap_cons, List.length_append, List.length_cons, List.length_nil] at this ⊢
    omega
theorem insCells_get : ∀ (xs : List Ins) (i : Nat), i < xs.length → (insCells xs)[i * 5]? = some (.int .i64 (insF xs i).op) ∧ (insCells xs)[i * 5 + 1]? = some (.int .i64 (insF xs i).a) ∧ (insCells xs)[i * 5 + 2]? = some (.int .i64 (insF xs i).b) ∧ (insCells xs)[i * 5 + 3]? = some (.int .i64 (insF xs i).c) ∧ (insCells xs)[i * 5 + 4]? = some (.int .i64 (insF xs i).n)
  | [], i, h => by simp at h
  | x :: xs, 0, _ => ⟨rfl, rfl, rfl, rfl, rfl⟩
  | x :: xs, i + 1, h => by
    have := insCells_get xs i (by simpa using h)
    have e : ∀ k, (insCells (x :: xs))[(i + 1) * 5 + k]? = (insCells xs)[i * 5 + k]? := fun k => by
      rw [show (i + 1) * 5 + k = (i * 5 + k) + 5 by omega]; rfl
    exact ⟨(e 0).trans this.1, (e 1).trans this.2.1, (e 2).trans this.2.2.1, (e 3).trans this.2.2.2.1, (e 4).trans this.2.2.2.2⟩
theorem fnCells_get : ∀ (xs : List Fn) (i : Nat), i < xs.length → (fnCells xs)[i * 5]? = some (.string (fnF xs i).name) ∧ (fnCells xs)[i * 5 + 1]? = some (.int .i64 (fnF xs i).frame) ∧ (fnCells xs)[i * 5 + 2]? = some (.int .i64 (fnF xs i).first) ∧ (fnCells xs)[i * 5 + 3]? = some (.int .i64 (fnF xs i).count) ∧ (fnCells xs)[i * 5 + 4]? = some (.int .i64 (fnF xs i).params)
  | [], i, h => by simp at h
  | x :: xs, 0, _ => ⟨rfl, rfl, rfl, rfl, rfl⟩
  | x :: xs, i + 1, h => by
    have := fnCells_get xs i (by simpa using h)
    have e : ∀ k, (fnCells (x :: xs))[(i + 1) * 5 + k]? = (fnCells xs)[i * 5 + k]? := fun k => by
      rw [show (i + 1) * 5 + k = (i * 5 + k) + 5 by omega]; rfl
    exact ⟨(e 0).trans this.1, (e 1).trans this.2.1, (e 2).trans this.2.2.1, (e 3).trans this.2.2.2.1, (e 4).trans this.2.2.2.2⟩
/-- Rows of the call's own. -/
def IR (w : World) (H : Nat) (v : Value) (xs : List Ins) : Prop := w.ownsRow H 41 5 v xs.length (insCells xs)
def FR (w : World) (H : Nat) (v : Value) (fs : List Fn) : Prop := w.ownsRow H 53 5 v fs.length (fnCells fs)
theorem own_only {w w' : World} {base : Nat} {e : TypeId} {size n : Nat} {v : Value} {xs : List Value} {F : Nat → Prop} (h : w.ownsRow base e size v n xs) (o : Only F w w') (hne : ∀ b, v.ownBlock = some b → ¬ F b) : w'.ownsRow base e size v n xs := by
  refine ⟨h.1, ?_⟩
  rcases h.2 with h0 | ⟨g, cap, cur, rfl, hb, hh, r⟩
  · exact .inl h0
  · exact .inr ⟨g, cap, cur, rfl, hb, (o.block g ((World.ownsRow.lt h g rfl).2) (hne g rfl)).trans hh, r⟩
theorem own_mono {w : World} {base base' : Nat} {e : TypeId} {size n : Nat} {v : Value} {xs : List Value} (h : w.ownsRow base e size v n xs) (hH : base' ≤ base) : w.ownsRow base' e size v n xs := by
  refine ⟨h.1, ?_⟩
  rcases h.2 with h0 | ⟨g, cap, cur, e, hb, r⟩
  · exact .inl h0
  · exact .inr ⟨g, cap, cur, e, Nat.le_trans hH hb, r⟩
theorem own_shape {w : World} {base : Nat} {e : TypeId} {size n : Nat} {v : Value} {xs : List Value} (h : w.ownsRow base e size v n xs) : ∃ A cap, v = .slice A n cap ∧ n ≤ cap ∧ cap ≤ maxLen ∧ (0 < n → ∃ g, A = some ⟨g, 0, none⟩ ∧ base ≤ g ∧ g < w.heap.size ∧ v.ownBlock = some g) := by
  rcases h.2 with ⟨rfl, h0⟩ | ⟨g, cap, cur, rfl, hb, hh, hnc, hcm, _⟩
  · exact ⟨none, 0, by rw [h0], by omega, by unfold maxLen; omega, fun h => by omega⟩
  · exact ⟨_, cap, rfl, hnc, hcm, fun _ => ⟨g, rfl, hb, (World.ownsRow.lt h g rfl).2, rfl⟩⟩
theorem IR.il {w : World} {H n cap : Nat} {A : Option Addr} {xs : List Ins} (h : IR w H (.slice A n cap) xs) (hx : ∀ x, x ∈ xs → InsIn x) (hl : xs.length ≤ 9223372036854775807) : IL w (fun b => H ≤ b) A xs.length (insF xs) := by
  refine ⟨hl, fun i hi => ?_⟩
  obtain ⟨A', cap', e, _, _, hg⟩ := own_shape h
  obtain ⟨g, rfl, hb, hlt, _⟩ := hg (by omega)
  injection e with e1 e2 e3
  subst e1 e2
  obtain ⟨c0, c1, c2, c3, c4⟩ := insCells_get xs i hi
  have k := fun j (hj : j < 5) => World.ownsRow.cellAt h (i * 5 + j) (by omega)
  refine ⟨hx _ ?_, g, 0, rfl, hb, hlt, ?_, ?_, ?_, ?_, ?_⟩
  · unfold insF; rw [List.getD_eq_getElem?_getD, List.getElem?_eq_getElem hi]; exact List.getElem_mem hi
  · rw [Nat.zero_add]; exact (k 0 (by omega)).trans c0
  · rw [Nat.zero_add]; exact (k 1 (by omega)).trans c1
  · rw [Nat.zero_add]; exact (k 2 (by omega)).trans c2
  · rw [Nat.zero_add]; exact (k 3 (by omega)).trans c3
  · rw [Nat.zero_add]; exact (k 4 (by omega)).trans c4
theorem FR.cells {w : World} {H n cap g : Nat} {fs : List Fn} (h : FR w H (.slice (some ⟨g, 0, none⟩) n cap) fs) (i : Nat) (hi : i < fs.length) :
    w.cell? ⟨g, i * 5, none⟩ = some (.string (fnF fs i).name) ∧ w.cell? ⟨g, i * 5 + 1, none⟩ = some (.int .i64 (fnF fs i).frame) ∧ w.cell? ⟨g, i * 5 + 2, none⟩ = some (.int .i64 (fnF fs i).first) ∧ w.cell? ⟨g, i * 5 + 3, none⟩ = some (.int .i64 (fnF fs i).count) ∧ w.cell? ⟨g, i * 5 + 4, none⟩ = some (.int .i64 (fnF fs i).params) := by
  obtain ⟨A', cap', e, _, _, _⟩ := own_shape h
  injection e with e1 e2 e3
  subst e2
  obtain ⟨c0, c1, c2, c3, c4⟩ := fnCells_get fs i hi
  have k := fun j (hj : j < 5) => World.ownsRow.cellAt h (i * 5 + j) (by omega)
  exact ⟨(k 0 (by omega)).trans c0, (k 1 (by omega)).trans c1, (k 2 (by omega)).trans c2, (k 3 (by omega)).trans c3, (k 4 (by omega)).trans c4⟩
theorem FR.fl {w : World} {H n cap : Nat} {A : Option Addr} {fs : List Fn} (h : FR w H (.slice A n cap) fs) (hx : ∀ x, x ∈ fs → FnIn x ∧ x.name.size ≤ 9223372036854775807) (hl : fs.length ≤ 9223372036854775807) : FL w (fun b => H ≤ b) A fs.length (fnF fs) := by
  refine ⟨hl, fun i hi => ?_⟩
  obtain ⟨A', cap', e, _, _, hg⟩ := own_shape h
  obtain ⟨g, rfl, hb, hlt, _⟩ := hg (by omega)
  injection e with e1 e2 e3
  subst e1
  obtain ⟨c0, c1, c2, c3, c4⟩ := FR.cells h i hi
  have hm : fnF fs i ∈ fs := by unfold fnF; rw [List.getD_eq_getElem?_getD, List.getElem?_eq_getElem hi]; exact List.getElem_mem hi
  exact ⟨(hx _ hm).1, (hx _ hm).2, g, 0, rfl, hb, hlt, by rw [Nat.zero_add]; exact c0, by rw [Nat.zero_add]; exact c1, by rw [Nat.zero_add]; exact c2, by rw [Nat.zero_add]; exact c3, by rw [Nat.zero_add]; exact c4⟩
def nameIn (fs : List Fn) (l : List UInt8) : Bool := fs.any fun f => decide (f.name.data.toList = l)
theorem nameIn_iff (fs : List Fn) (s : ByteArray) : nameIn fs s.data.toList = true ↔ ∃ f, f ∈ fs ∧ f.name = s := by
  unfold nameIn
  rw [List.any_eq_true]
  exact ⟨fun ⟨f, h1, h2⟩ => ⟨f, h1, name_eq.2 (of_decide_eq_true h2)⟩, fun ⟨f, h1, h2⟩ => ⟨f, h1, decide_eq_true (name_eq.1 h2)⟩⟩
theorem nameIn_snoc (fs : List Fn) (f : Fn) (l : List UInt8) : (if l = f.name.data.toList then true else nameIn fs l) = nameIn (fs ++ [f]) l := by
  unfold nameIn
  rw [List.any_append]
  by_cases h : l = f.name.data.toList
  · rw [if_pos h]; simp [h]
  · rw [if_neg h]; simp [show ¬ f.name.data.toList = l from fun e => h e.symm]
theorem SMap.only {P : Program} {K E : TypeId} {w w' : World} {b n : Nat} {f : List UInt8 → Bool} {F : Nat → Prop} (h : SMap P K E w b n f) (ho : Only F w w') (hb : ¬ F b) : SMap P K E w' b n f := by
  have hlt := h.lt
  obtain ⟨D, ⟨es, clock, hb', F1, hs, hD⟩, h2⟩ := h
  exact ⟨D, ⟨es, clock, (ho.block b hlt hb).trans hb', F1, hs, hD⟩, h2⟩
theorem SMap.ne_blk {P : Program} {K E : TypeId} {w : World} {b n : Nat} {f : List UInt8 → Bool} (h : SMap P K E w b n f) {g : Nat} {t : TypeId} {cs : Array Value} (hg : Blk w g t cs) : b ≠ g := by
  rintro rfl
  obtain ⟨D, ⟨es, clock, hb', _⟩, _⟩ := h
  unfold Blk at hg
  rw [hb'] at hg
  cases hg
theorem SMap.ne_own {P : Program} {K E : TypeId} {w : World} {b n : Nat} {f : List UInt8 → Bool} (h : SMap P K E w b n f) {base : Nat} {e : TypeId} {size k : Nat} {v : Value} {xs : List Value} (hv : w.ownsRow base e size v k xs) : v.ownBlock ≠ some b := by
  intro he
  obtain ⟨D, ⟨es, clock, hb', _⟩, _⟩ := h
  rcases hv.2 with ⟨rfl, _⟩ | ⟨g, cap, cur, rfl, _, hh, _⟩
  · simp [Value.ownBlock] at he
  · have : g = b := by simpa [Value.ownBlock] using he
    subst this
    rw [hb'] at hh
    cases hh
theorem own_ne_own {w : World} {b1 b2 : Nat} {e1 e2 : TypeId} {s1 s2 n1 n2 : Nat} {v1 v2 : Value} {x1 x2 : List Value} (h1 : w.ownsRow b1 e1 s1 v1 n1 x1) (h2 : w.ownsRow b2 e2 s2 v2 n2 x2) (hne : e1 ≠ e2) (g : Nat) : v1.ownBlock = some g → ¬ v2.ownBlock = some g := by
  intro a1 a2
  rcases h1.2 with ⟨rfl, _⟩ | ⟨g1, _, _, rfl, _, hh1, _⟩
  · simp [Value.ownBlock] at a1
  rcases h2.2 with ⟨rfl, _⟩ | ⟨g2, _, _, rfl, _, hh2, _⟩
  · simp [Value.ownBlock] at a2
  have e1 : g1 = g := by simpa [Value.ownBlock] using a1
  have e2 : g2 = g := by simpa [Value.ownBlock] using a2
  subst e1 e2
  rw [hh1] at hh2
  injection hh2 with hh2
  injection hh2 with _ ht
  exact hne ht
/-- What code's reader keeps. -/
structure RM (w : World) (H : Nat) (G : Nat → Prop) (A : Option Addr) (L c : Nat) (Bf : Nat → UInt8) (r mb : Nat) (iv fv : Value) (xs : List Ins) (fs : List Fn) (mn : Nat) (mf : List UInt8 → Bool) (p : Nat) (bad : Bool) (m : Int) : Prop where
  b : Blk w r 67 (rcells (.slice A L c) p bad iv fv m mb)
  bl : BL w G A L Bf
  im : IR w H iv xs
  fm : FR w H fv fs
  mp : SMap Try.prog 9 3 w mb mn mf
  hr : H ≤ r
  hmb : H ≤ mb
section
variable {w w' : World} {H : Nat} {G : Nat → Prop} {A : Option Addr} {L c : Nat} {Bf : Nat → UInt8} {r mb : Nat} {iv fv : Value} {xs : List Ins} {fs : List Fn} {mn : Nat} {mf : List UInt8 → Bool} {p p' : Nat} {bad bad' : Bool} {m m' : Int}
theorem RM.gr (hG : ∀ b, G b → b < H) (h : RM w H G A L c Bf r mb iv fv xs fs mn mf p bad m) : ¬ G r := fun g => by have := hG r g; have := h.hr; omega
theorem RM.turn (hG : ∀ b, G b → b < H) (h : RM w H G A L c Bf r mb iv fv xs fs mn mf p bad m) (o : Only (fun b => b = r) w w') (hb : Blk w' r 67 (rcells (.slice A L c) p' bad' iv fv m' mb)) : RM w' H G A L c Bf r mb iv fv xs fs mn mf p' bad' m' :=
  ⟨hb, h.bl.only o (fun b _ hg e => h.gr hG (e ▸ hg)), own_only h.im o (fun b hb e => own_blk_ne h.im h.b (by decide) (e ▸ hb)), own_only h.fm o (fun b hb e => own_blk_ne h.fm h.b (by decide) (e ▸ hb)), h.mp.only o (fun e => h.mp.ne_blk h.b e), h.hr, h.hmb⟩
theorem RM.quiet (h : RM w H G A L c Bf r mb iv fv xs fs mn mf p bad m) (o : Only (fun _ => False) w w') : RM w' H G A L c Bf r mb iv fv xs fs mn mf p bad m :=
  ⟨h.b.only o (fun h => h), h.bl.only o (fun _ _ _ h => h), own_only h.im o (fun _ _ h => h), own_only h.fm o (fun _ _ h => h), h.mp.only o (fun h => h), h.hr, h.hmb⟩
theorem RM.number (hG : ∀ b, G b → b < H) (h : RM w H G A L c Bf r mb iv fv xs fs mn mf p bad m) (hp : p ≤ L) (hL : L ≤ 300000000) (hc : L ≤ c) (hc2 : c ≤ 9223372036854775807) {n lo hi : Nat} (hn : 1 ≤ n) (hn2 : n ≤ 8) (hlo : lo < 18446744073709551616) (hhi : hi < 18446744073709551616) {ni li hi' : Int} (e1 : ni = (n : Int)) (e2 : li = (lo : Int)) (e3 : hi' = (hi : Int)) :
    Calls Try.prog 28 #[.pointer (some ⟨r, 0, none⟩), .int .i64 ni, .int .u64 li, .int .u64 hi'] w fun e w' => ∃ v p' bad', e = .returned (.int .i64 v) ∧ i64in v ∧ RM w' H G A L c Bf r mb iv fv xs fs mn mf p' bad' m ∧ Only (fun b => b = r) w w' ∧ NumR Bf L n lo hi p bad p' bad' v := by
  subst e1 e2 e3
  refine (rdnumber_c w G A L c Bf r iv fv m mb p bad n lo hi h.b h.bl (h.gr hG) hp hL hc hc2 hn hn2 hlo hhi).mono ?_
  rintro e w' ⟨v, p', bad', rfl, hv, hb, ho, hR⟩
  exact ⟨v, p', bad', rfl, hv, h.turn hG ho hb, ho, hR⟩
end
theorem NumR.le {Bf : Nat → UInt8} {L n lo hi p : Nat} {bad : Bool} {p' : Nat} {bad' : Bool} {v : Int} (h : NumR Bf L n lo hi p bad p' bad' v) (hp : p ≤ L) : p' ≤ L := by
  rcases h with ⟨_, _, rfl⟩ | ⟨_, _, h, _⟩ | ⟨_, _, rfl, h, _⟩ <;> omega
end Go.Proofs.Ytafhjpehkfcmjaa
namespace Go.Proofs.Ytafhjpehkfcmjaa
open Go.RowKit
theorem push_bytes : ∀ (l : List UInt8) (s : ByteArray), ((l.map fun b => (b.toNat : Int)).foldl (fun r n => r.push (UInt8.ofNat n.toNat)) s).data.toList = s.data.toList ++ l
  | [], s => by simp
  | b :: l, s => by
    rw [List.map_cons, List.foldl_cons, push_bytes l]
    have : (s.push (UInt8.ofNat ((b.toNat : Int)).toNat)).data.toList = s.data.toList ++ [b] := by
      show (s.data.push _).toList = _
      rw [Array.toList_push, Int.toNat_natCast, UInt8.ofNat_toNat]
    rw [this, List.append_assoc]; rfl
/-- Bytes that can be read, turned to a string. -/
theorem bytes_string {w : World} {G : Nat → Prop} {D : Option Addr} {n c : Nat} {S : Nat → UInt8} (h : BL w G D n S) (hn : 0 < n) : (convert 28 9 (.slice D n c)).run Try.prog w = .ok (.string (nameOf (slc S 0 n))) w := by
  rw [run_convert_bytes_string w 28 9 5 D n c Try.underlying28 Try.underlying5 Try.underlying9]
  obtain ⟨b, off, rfl, _, _, _⟩ := h 0 hn
  have hl := run_loadCells (P := Try.prog) (w := w) ⟨b, off, none⟩ n (fun j => .int .u8 ((S j).toNat : Int)) (fun j hj => by
    obtain ⟨b', off', e, _, _, hc⟩ := h j hj
    injection e with e
    injection e with e1 e2 _
    subst e1 e2
    rw [Go.WideShapes.add_plain]
    exact hc)
  have e : ((List.range n).map fun j => Value.int .u8 ((S j).toNat : Int)) = ((slc S 0 n).map fun b => (b.toNat : Int)).map (Value.int .u8) := by
    simp [slc]
  rw [e] at hl
  rw [run_bytesToString w ⟨b, off, none⟩ n c ((slc S 0 n).map fun b => (b.toNat : Int)) hl]
  congr 2
  refine name_eq.2 ?_
  rw [push_bytes]
  rfl
theorem SMap.look_all {P : Program} {K E T : TypeId} {w : World} {b n : Nat} {f : List UInt8 → Bool} (h : SMap P K E w b n f) (hT : P.underlying T = some (.map K E)) (hK : P.underlying K = some .string) (hE : P.underlying E = some (.int .i64)) (hz : ∀ w, (zeroValue E).run P w = .ok (.int .i64 0) w) {s : ByteArray} (hs : s.size ≤ maxLen) :
    ∃ c : Int, ∀ k, (Instr.lookup T (.map (some b)) (.string s) true).run P (w.drewN k) = .ok (.tuple #[.int .i64 c, .bool (f s.data.toList)]) (w.drewN k) := by
  obtain ⟨D, h1, h2⟩ := h
  have key : ∀ k, ∃ c : Int, (Instr.lookup T (.map (some b)) (.string s) true).run P (w.drewN k) = .ok (.tuple #[.int .i64 c, .bool (f s.data.toList)]) (w.drewN k) ∧ D.atKey (.string s.data.toList) (.lit (.int .i64 0)) = .lit (.int .i64 c) := by
    intro k
    have h1k : (w.drewN k).ownsMap P K (plainElem P E) b n D := h1
    obtain ⟨v, ps, hrun, hv⟩ := h1k.look_ok (t := T) (Maps.string_keyed hK) hT (hz _) (plainElem_int hE (by decide)) (WideMaps.keyOf_string_mk hK hs)
    obtain ⟨c, rfl, hc, _⟩ := plainElem_int_inv hE hv
    rw [h2] at hrun
    simp only [Prod.mk.injEq] at hc
    exact ⟨c, hrun, hc.1⟩
  obtain ⟨c, _, hc⟩ := key 0
  refine ⟨c, fun k => ?_⟩
  obtain ⟨c', hr, hc'⟩ := key k
  rw [hc] at hc'
  injection hc' with hc'
  injection hc' with _ hc'
  rw [hc']
  exact hr
/-- What function keeps: the reader, and the head that it fills. -/
structure FT (w0 w : World) (H : Nat) (G : Nat → Prop) (A : Option Addr) (L c : Nat) (Bf : Nat → UInt8) (r mb : Nat) (iv fv : Value) (xs : List Ins) (fs : List Fn) (mn : Nat) (mf : List UInt8 → Bool) (p : Nat) (bad : Bool) (m : Int) (g : Nat) (ff : Array Value) : Prop where
  rm : RM w H G A L c Bf r mb iv fv xs fs mn mf p bad m
  fb : Blk w g 53 ff
  ne : fv.ownBlock ≠ some g
  bw : Below H w0 w
  hg : H ≤ g
section
variable {w0 w w' : World} {H : Nat} {G : Nat → Prop} {A : Option Addr} {L c : Nat} {Bf : Nat → UInt8} {r mb : Nat} {iv fv : Value} {xs : List Ins} {fs : List Fn} {mn : Nat} {mf : List UInt8 → Bool} {p p' : Nat} {bad bad' : Bool} {m m' : Int} {g : Nat} {ff ff' : Array Value}
theorem FT.turn (hG : ∀ b, G b → b < H) (h : FT w0 w H G A L c Bf r mb iv fv xs fs mn mf p bad m g ff) (o : Only (fun b => b = r) w w') (hb : Blk w' r 67 (rcells (.slice A L c) p' bad' iv fv m' mb)) : FT w0 w' H G A L c Bf r mb iv fv xs fs mn mf p' bad' m' g ff := by
  have hr := h.rm.hr
  have hlt := h.rm.b.lt
  exact ⟨h.rm.turn hG o hb, h.fb.only o (fun e => Blk.ne_ h.fb h.rm.b (by decide) e), h.ne, h.bw.trans (o.toBelow (by omega) fun k hk e => by omega), h.hg⟩
theorem FT.quiet (h : FT w0 w H G A L c Bf r mb iv fv xs fs mn mf p bad m g ff) (o : Only (fun _ => False) w w') : FT w0 w' H G A L c Bf r mb iv fv xs fs mn mf p bad m g ff := by
  have hg := h.hg
  have hlt := h.fb.lt
  exact ⟨h.rm.quiet o, h.fb.only o (fun h => h), h.ne, h.bw.trans (o.toBelow (by omega) fun _ _ h => h), h.hg⟩
theorem FT.box (h : FT w0 w H G A L c Bf r mb iv fv xs fs mn mf p bad m g ff) (o : Only (fun b => b = g) w w') (hG : ∀ b, G b → b < H) (hb : Blk w' g 53 ff') : FT w0 w' H G A L c Bf r mb iv fv xs fs mn mf p bad m g ff' := by
  have hg := h.hg
  have hlt := h.fb.lt
  have hm := h.rm
  refine ⟨⟨hm.b.only o (fun e => Blk.ne_ h.fb hm.b (by decide) e.symm), hm.bl.only o (fun b _ hb e => by have := hG b hb; omega), own_only hm.im o (fun b hb e => own_blk_ne hm.im h.fb (by decide) (e ▸ hb)), own_only hm.fm o (fun b hb e => h.ne (e ▸ hb)), hm.mp.only o (fun e => hm.mp.ne_blk h.fb e), hm.hr, hm.hmb⟩, hb, h.ne, h.bw.trans (o.toBelow (by omega) fun k hk e => by omega), h.hg⟩
theorem FT.put (h : FT w0 w H G A L c Bf r mb iv fv xs fs mn mf p bad m g ff) (hG : ∀ b, G b → b < H) (j : Nat) (u : Value) : FT w0 (w.setCell ⟨g, j, none⟩ u) H G A L c Bf r mb iv fv xs fs mn mf p bad m g (ff.setIfInBounds j u) :=
  h.box ((Only.refl (fun b => b = g) w).setCell (.inl rfl) u) hG (h.fb.set_ j u)
theorem FT.number (hG : ∀ b, G b → b < H) (h : FT w0 w H G A L c Bf r mb iv fv xs fs mn mf p bad m g ff) (hp : p ≤ L) (hL : L ≤ 300000000) (hc : L ≤ c) (hc2 : c ≤ 9223372036854775807) {n lo hi : Nat} (hn : 1 ≤ n) (hn2 : n ≤ 8) (hlo : lo < 18446744073709551616) (hhi : hi < 18446744073709551616) {ni li hi' : Int} (e1 : ni = (n : Int)) (e2 : li = (lo : Int)) (e3 : hi' = (hi : Int)) :
    Calls Try.prog 28 #[.pointer (some ⟨r, 0, none⟩), .int .i64 ni, .int .u64 li, .int .u64 hi'] w fun e w' => ∃ v p' bad', e = .returned (.int .i64 v) ∧ i64in v ∧ FT w0 w' H G A L c Bf r mb iv fv xs fs mn mf p' bad' m g ff ∧ p' ≤ L ∧ NumR Bf L n lo hi p bad p' bad' v := by
  subst e1 e2 e3
  refine (rdnumber_c w G A L c Bf r iv fv m mb p bad n lo hi h.rm.b h.rm.bl (h.rm.gr hG) hp hL hc hc2 hn hn2 hlo hhi).mono ?_
  rintro e w' ⟨v, p', bad', rfl, hv, hb, ho, hR⟩
  exact ⟨v, p', bad', rfl, hv, h.turn hG ho hb, hR.le hp, hR⟩
theorem FT.field (hG : ∀ b, G b → b < H) (h : FT w0 w H G A L c Bf r mb iv fv xs fs mn mf p bad m g ff) (hp : p ≤ L) (hL : L ≤ 300000000) (hc : L ≤ c) (hc2 : c ≤ 9223372036854775807) {n : Nat} (hn : 1 ≤ n) (hn2 : n ≤ 64) :
    Calls Try.prog 39 #[.pointer (some ⟨r, 0, none⟩), .int .i64 (n : Int)] w fun e w' => ∃ D S p' bad', e = .returned (.slice D n n) ∧ FT w0 w' H G A L c Bf r mb iv fv xs fs mn mf p' bad' m g ff ∧ p' ≤ L ∧ BL w' (fun b => b ≠ r) D n S ∧
      ((bad = true ∧ bad' = true ∧ p' = p) ∨ (bad = false ∧ L < p + n ∧ bad' = true ∧ p' = L) ∨ (bad = false ∧ p + n ≤ L ∧ bad' = false ∧ p' = p + n ∧ ∀ i, i < n → S i = Bf (p + i))) := by
  refine (rdfield_c w G A L c Bf r iv fv m mb p bad n h.rm.b h.rm.bl (h.rm.gr hG) hp hL hc hc2 hn hn2).mono ?_
  rintro e w' ⟨D, S, p', bad', rfl, hb, ho, hD, hR⟩
  exact ⟨D, S, p', bad', rfl, h.turn hG ho hb, by rcases hR with ⟨_, _, rfl⟩ | ⟨_, _, _, rfl⟩ | ⟨_, h, _, rfl, _⟩ <;> omega, hD, hR⟩
theorem FT.mput (h : FT w0 w H G A L c Bf r mb iv fv xs fs mn mf p bad m g ff) (hG : ∀ b, G b → b < H) {mn' : Nat} {mf' : List UInt8 → Bool} (hm : SMap Try.prog 9 3 w' mb mn' mf') (hg : w.grownBy w' (some mb)) : FT w0 w' H G A L c Bf r mb iv fv xs fs mn' mf' p bad m g ff := by
  have o : Only (fun b => b = mb) w w' := (Only.refl _ _).grown hg fun j hj => .inl (by injection hj with hj; exact hj.symm)
  have hmb := h.rm.hmb
  have hlt := h.rm.mp.lt
  have hr := h.rm
  refine ⟨⟨hr.b.only o (fun e => hr.mp.ne_blk hr.b e.symm), hr.bl.only o (fun b _ hb e => by have := hG b hb; omega), own_only hr.im o (fun b hb e => hr.mp.ne_own hr.im (e ▸ hb)), own_only hr.fm o (fun b hb e => hr.mp.ne_own hr.fm (e ▸ hb)), hm, hr.hr, hr.hmb⟩, h.fb.only o (fun e => hr.mp.ne_blk h.fb e.symm), h.ne, h.bw.trans (o.toBelow (by omega) fun k hk e => by omega), h.hg⟩
/-- The reader stands at a place, at fault. -/
theorem FT.fault (hG : ∀ b, G b → b < H) (h : FT w0 w H G A L c Bf r mb iv fv xs fs mn mf p bad m g ff) (q : Nat) : FT w0 ((w.setCell ⟨r, 1, none⟩ (.int .i64 (q : Int))).setCell ⟨r, 2, none⟩ (.bool true)) H G A L c Bf r mb iv fv xs fs mn mf q true m g ff :=
  h.turn hG (((Only.refl (fun b => b = r) w).setCell (.inl rfl) _).setCell (.inl rfl) _) ((h.rm.b.set_ 1 _).set_ 2 _)
end
end Go.Proofs.Ytafhjpehkfcmjaa
