/- r16's machine in memory, on: what stands, and how it is carried. -/
import Derived.Test.YtkjfbojmkkdgoaaX1
set_option linter.unusedVariables false
set_option linter.unusedSimpArgs false
namespace Go.Proofs.Ytkjfbojmkkdgoaa
open Go.RowKit
/-- Numbers that can be read at A. -/
def NL (w : World) (G : Nat → Prop) (A : Option Addr) (xs : List Int) : Prop :=
  xs.length ≤ 9223372036854775807 ∧ ∀ i, i < xs.length → ∃ b off, A = some ⟨b, off, none⟩ ∧ G b ∧ b < w.heap.size ∧ w.cell? ⟨b, off + i, none⟩ = some (.int .i64 (xs.getD i 0))
def evs : List (Int × Int) → List Value
  | [] => []
  | e :: r => .int .i64 e.1 :: .int .i64 e.2 :: evs r
theorem evs_length (xs : List (Int × Int)) : (evs xs).length = xs.length * 2 := by
  induction xs with
  | nil => rfl
  | cons e r ih => simp [evs, ih]; omega
theorem evs_append (xs ys : List (Int × Int)) : evs (xs ++ ys) = evs xs ++ evs ys := by
  induction xs with
  | nil => rfl
  | cons e r ih => simp [evs, ih]
/-- The stack: a row, and a map for what lies far. -/
def SAt (w : World) (G G2 : Nat → Prop) (row : Value) (far c : Nat) (st : Int → Int) : Prop :=
  ∃ (xs : List Int) (f : Int → Option Int), Row w G 3 1 row xs.length (nums xs) ∧ IMap Try.prog 3 w far c f ∧ G2 far ∧ xs.length ≤ 65536 ∧ (∀ i : Int, i < 65536 → f i = none) ∧
    ∀ i : Nat, st (i : Int) = if i < xs.length then xs.getD i 0 else (f (i : Int)).getD 0
def nz (z : Nat → Nat) (n j : Nat) : Nat → Nat := fun b => if b < n then z b else j
theorem nz_lt (z : Nat → Nat) {n b : Nat} (h : b < n) (j : Nat) : nz z n j b = z b := if_pos h
theorem nz_ge (z : Nat → Nat) {n b : Nat} (h : n ≤ b) (j : Nat) : nz z n j b = j := if_neg (by omega)
section
variable {w w' : World} {F G G' G2 G2' : Nat → Prop}
theorem IL.tr {A : Option Addr} {n : Nat} {X : Nat → Ins} (h : IL w G A n X) (o : Only F w w') (hd : ∀ b, b < w.heap.size → G b → ¬ F b ∧ G' b) : IL w' G' A n X :=
  ⟨h.1, fun i hi => let ⟨h1, b, off, h2, h3, h4, c0, c1, c2, c3, c4⟩ := h.2 i hi
    have k := fun (j : Nat) => o.cell (o := j) h4 (hd b h4 h3).1
    ⟨h1, b, off, h2, (hd b h4 h3).2, Nat.lt_of_lt_of_le h4 o.size, (k _).trans c0, (k _).trans c1, (k _).trans c2, (k _).trans c3, (k _).trans c4⟩⟩
theorem FL.tr {A : Option Addr} {n : Nat} {X : Nat → Fn} (h : FL w G A n X) (o : Only F w w') (hd : ∀ b, b < w.heap.size → G b → ¬ F b ∧ G' b) : FL w' G' A n X :=
  ⟨h.1, fun i hi => let ⟨h1, hs, b, off, h2, h3, h4, c0, c1, c2, c3, c4⟩ := h.2 i hi
    have k := fun (j : Nat) => o.cell (o := j) h4 (hd b h4 h3).1
    ⟨h1, hs, b, off, h2, (hd b h4 h3).2, Nat.lt_of_lt_of_le h4 o.size, (k _).trans c0, (k _).trans c1, (k _).trans c2, (k _).trans c3, (k _).trans c4⟩⟩
theorem NL.tr {A : Option Addr} {xs : List Int} (h : NL w G A xs) (o : Only F w w') (hd : ∀ b, b < w.heap.size → G b → ¬ F b ∧ G' b) : NL w' G' A xs :=
  ⟨h.1, fun i hi => let ⟨b, off, h2, h3, h4, c0⟩ := h.2 i hi
    ⟨b, off, h2, (hd b h4 h3).2, Nat.lt_of_lt_of_le h4 o.size, (o.cell h4 (hd b h4 h3).1).trans c0⟩⟩
theorem Row.tr {e : TypeId} {size n : Nat} {v : Value} {xs : List Value} (h : Row w G e size v n xs) (o : Only F w w') (hd : ∀ b, b < w.heap.size → G b → ¬ F b ∧ G' b) : Row w' G' e size v n xs :=
  (h.mono (G := G') fun b hb hg => (hd b hb hg).2).only o fun b hb => (hd b (h.lt hb) (h.2 b hb)).1
theorem SAt.tr {row : Value} {far c : Nat} {st : Int → Int} (h : SAt w G G2 row far c st) (o : Only F w w') (hd : ∀ b, b < w.heap.size → G b → ¬ F b ∧ G' b) (hd2 : ∀ b, b < w.heap.size → G2 b → ¬ F b ∧ G2' b) : SAt w' G' G2' row far c st := by
  obtain ⟨xs, f, h1, h2, h3, h4, h5, h6⟩ := h
  exact ⟨xs, f, h1.tr o hd, h2.only o (hd2 far h2.lt h3).1, (hd2 far h2.lt h3).2, h4, h5, h6⟩
theorem SAt.mono {row : Value} {far c c' : Nat} {st : Int → Int} (h : SAt w G G2 row far c st) (hc : c ≤ c') : SAt w G G2 row far c' st := by
  obtain ⟨xs, f, h1, h2, h3, h4, h5, h6⟩ := h
  exact ⟨xs, f, h1, h2.mono hc, h3, h4, h5, h6⟩
theorem HeapAt.tr {g c : Nat} {q : QH} (h : HeapAt w G g c q) (o : Only F w w') (hd : ∀ b, b < w.heap.size → G b → ¬ F b ∧ G' b) : HeapAt w' G' g c q := by
  obtain ⟨s, t, h1, h2, h3, h4, h5, h6, h7⟩ := h
  exact ⟨s, t, h1.only o (hd g h1.lt h5).1, h2.only o (hd s h2.lt h6).1, h3.only o (hd t h3.lt h7).1, h4, (hd g h1.lt h5).2, (hd s h2.lt h6).2, (hd t h3.lt h7).2⟩
end
/-- The machine at block g: z tells what each of its blocks is. -/
structure MZ (w : World) (C : Nat → Prop) (z : Nat → Nat) (g : Nat) (p : MP) (K : MK) (q : MQ) (c : Nat) : Prop where
  foot : ∀ b, z b ≠ 0 → C b
  blk : ∃ f, Blk w g 87 (mArr f) ∧ MF f p K q
  zg : z g = 1
  il : IL w (fun b => z b = 7) p.ia K.ni K.X
  ic : K.ni ≤ p.ic
  fl : FL w (fun b => z b = 7) p.fa K.nf K.Fs
  fc : K.nf ≤ p.fc
  nl : NL w (fun b => z b = 7) p.na q.inp
  nc : q.inp.length ≤ p.nc
  sa : SAt w (fun b => z b = 2) (fun b => z b = 3) p.row p.far c q.st
  ha : HeapAt w (fun b => z b = 4) p.hp c q.hp
  hok : q.hp.Ok
  ca : Row w (fun b => z b = 5) 3 1 p.cv q.cl.length (nums q.cl)
  ea : Row w (fun b => z b = 6) 50 2 p.ev q.ev.length (evs q.ev)
def MAt (w : World) (C : Nat → Prop) (g : Nat) (K : MK) (q : MQ) (c : Nat) : Prop := ∃ z p, MZ w C z g p K q c
section
variable {w w' : World} {C D F : Nat → Prop} {z : Nat → Nat} {g : Nat} {p : MP} {K : MK} {q : MQ} {c : Nat}
theorem MZ.cg (h : MZ w C z g p K q c) : C g := h.foot g (by rw [h.zg]; decide)
theorem MZ.lt (h : MZ w C z g p K q c) : g < w.heap.size := let ⟨_, h1, _⟩ := h.blk; h1.lt
theorem MZ.frozen (h : MZ w C z g p K q c) (k : Nat) : w.frozen? ⟨g, k, none⟩ = false := let ⟨_, h1, _⟩ := h.blk; h1.frozen k
theorem MZ.keep (h : MZ w C z g p K q c) (o : Only F w w') (hF : ∀ b, b < w.heap.size → C b → ¬ F b) : MZ w' C z g p K q c := by
  have k : ∀ (j : Nat), j ≠ 0 → ∀ b, b < w.heap.size → z b = j → ¬ F b ∧ z b = j := fun j hj b hb hz => ⟨hF b hb (h.foot b (by omega)), hz⟩
  obtain ⟨f, h1, h2⟩ := h.blk
  exact ⟨h.foot, ⟨f, h1.only o (hF g h1.lt h.cg), h2⟩, h.zg, h.il.tr o (k 7 (by decide)), h.ic, h.fl.tr o (k 7 (by decide)), h.fc, h.nl.tr o (k 7 (by decide)), h.nc,
    h.sa.tr o (k 2 (by decide)) (k 3 (by decide)), h.ha.tr o (k 4 (by decide)), h.hok, h.ca.tr o (k 5 (by decide)), h.ea.tr o (k 6 (by decide))⟩
theorem MZ.mono (h : MZ w C z g p K q c) {c' : Nat} (hc : c ≤ c') : MZ w C z g p K q c' :=
  { h with sa := h.sa.mono hc, ha := h.ha.mono hc }
theorem MZ.more (h : MZ w C z g p K q c) (hG : ∀ b, b < w.heap.size → C b → D b) : ∃ z, MZ w D z g p K q c := by
  have k : ∀ (j : Nat), ∀ b, b < w.heap.size → z b = j → ¬ (fun _ => False) b ∧ (if b < w.heap.size then z b else 0) = j := fun j b hb hz => ⟨fun h => h, by rw [if_pos hb]; exact hz⟩
  have o := Only.refl (fun _ => False) w
  refine ⟨fun b => if b < w.heap.size then z b else 0, fun b hb => ?_, h.blk, ?_, h.il.tr o (k 7), h.ic, h.fl.tr o (k 7), h.fc, h.nl.tr o (k 7), h.nc, h.sa.tr o (k 2) (k 3), h.ha.tr o (k 4), h.hok, h.ca.tr o (k 5), h.ea.tr o (k 6)⟩
  · by_cases hlt : b < w.heap.size
    · rw [if_pos hlt] at hb; exact hG b hlt (h.foot b hb)
    · rw [if_neg hlt] at hb; exact absurd rfl hb
  · rw [if_pos h.lt]; exact h.zg
/-- One of its own cells is written. -/
theorem MZ.put (h : MZ w C z g p K q c) (k : Nat) (u : Value) (q' : MQ) (hm : ∀ f, MF f p K q → MF (fset f k u) p K q') (e1 : q'.inp = q.inp) (e2 : q'.st = q.st) (e3 : q'.hp = q.hp) (e4 : q'.cl = q.cl) (e5 : q'.ev = q.ev) :
    MZ (w.setCell ⟨g, k, none⟩ u) C z g p K q' c := by
  have o : Only (fun b => z b = 1) w (w.setCell ⟨g, k, none⟩ u) := (Only.refl _ w).setCell (.inl h.zg) u
  have t : ∀ (j : Nat), j ≠ 1 → ∀ b, b < w.heap.size → z b = j → ¬ z b = 1 ∧ z b = j := fun j hj b hb hz => ⟨by omega, hz⟩
  obtain ⟨f, h1, h2⟩ := h.blk
  have b := h1.set_ k u
  rw [mArr_set] at b
  exact ⟨h.foot, ⟨_, b, hm f h2⟩, h.zg, h.il.tr o (t 7 (by decide)), h.ic, h.fl.tr o (t 7 (by decide)), h.fc, by rw [e1]; exact h.nl.tr o (t 7 (by decide)), by rw [e1]; exact h.nc,
    by rw [e2]; exact h.sa.tr o (t 2 (by decide)) (t 3 (by decide)), by rw [e3]; exact h.ha.tr o (t 4 (by decide)), by rw [e3]; exact h.hok, by rw [e4]; exact h.ca.tr o (t 5 (by decide)), by rw [e5]; exact h.ea.tr o (t 6 (by decide))⟩
theorem MZ.footN (h : MZ w C z g p K q c) (hC : ∀ b, w.heap.size ≤ b → C b) (j : Nat) : ∀ b, nz z w.heap.size j b ≠ 0 → C b := fun b hb => by
  by_cases hlt : b < w.heap.size
  · rw [nz_lt z hlt] at hb; exact h.foot b hb
  · exact hC b (by omega)
theorem tr_label {n j : Nat} (i : Nat) (hij : i ≠ j) : ∀ b, b < n → z b = i → ¬ z b = j ∧ nz z n j b = i := fun b hb hz => ⟨by omega, by rw [nz_lt z hb]; exact hz⟩
/-- The calls' row has turned, and is laid. -/
theorem MZ.sCl (h : MZ w C z g p K q c) (hC : ∀ b, w.heap.size ≤ b → C b) (o : Only (fun b => z b = 5) w w') (v : Value) (xs : List Int) (r : Row w' (fun b => nz z w.heap.size 5 b = 5) 3 1 v xs.length (nums xs)) :
    MZ (w'.setCell ⟨g, 67, none⟩ v) C (nz z w.heap.size 5) g { p with cv := v } K { q with cl := xs } c := by
  obtain ⟨f, h1, h2⟩ := h.blk
  have b := (h1.only o (by rw [h.zg]; decide)).set_ 67 v
  rw [mArr_set] at b
  have hgl := h.lt
  have hzg : nz z w.heap.size 5 g = 1 := by rw [nz_lt z hgl]; exact h.zg
  have o2 : Only (fun b => nz z w.heap.size 5 b = 1) w' (w'.setCell ⟨g, 67, none⟩ v) := (Only.refl _ w').setCell (.inl hzg) v
  have t2 : ∀ (j : Nat), j ≠ 1 → ∀ b, b < w'.heap.size → nz z w.heap.size 5 b = j → ¬ nz z w.heap.size 5 b = 1 ∧ nz z w.heap.size 5 b = j := fun j hj b hb hz => ⟨by omega, hz⟩
  exact ⟨h.footN hC 5, ⟨_, b, h2.sCl v xs⟩, hzg, (h.il.tr o (tr_label 7 (by decide))).tr o2 (t2 7 (by decide)), h.ic, (h.fl.tr o (tr_label 7 (by decide))).tr o2 (t2 7 (by decide)), h.fc, (h.nl.tr o (tr_label 7 (by decide))).tr o2 (t2 7 (by decide)), h.nc,
    (h.sa.tr o (tr_label 2 (by decide)) (tr_label 3 (by decide))).tr o2 (t2 2 (by decide)) (t2 3 (by decide)), (h.ha.tr o (tr_label 4 (by decide))).tr o2 (t2 4 (by decide)), h.hok, r.tr o2 (t2 5 (by decide)), (h.ea.tr o (tr_label 6 (by decide))).tr o2 (t2 6 (by decide))⟩
/-- The events' row has turned, and is laid. -/
theorem MZ.sEv (h : MZ w C z g p K q c) (hC : ∀ b, w.heap.size ≤ b → C b) (o : Only (fun b => z b = 6) w w') (v : Value) (xs : List (Int × Int)) (r : Row w' (fun b => nz z w.heap.size 6 b = 6) 50 2 v xs.length (evs xs)) :
    MZ (w'.setCell ⟨g, 68, none⟩ v) C (nz z w.heap.size 6) g { p with ev := v } K { q with ev := xs } c := by
  obtain ⟨f, h1, h2⟩ := h.blk
  have b := (h1.only o (by rw [h.zg]; decide)).set_ 68 v
  rw [mArr_set] at b
  have hgl := h.lt
  have hzg : nz z w.heap.size 6 g = 1 := by rw [nz_lt z hgl]; exact h.zg
  have o2 : Only (fun b => nz z w.heap.size 6 b = 1) w' (w'.setCell ⟨g, 68, none⟩ v) := (Only.refl _ w').setCell (.inl hzg) v
  have t2 : ∀ (j : Nat), j ≠ 1 → ∀ b, b < w'.heap.size → nz z w.heap.size 6 b = j → ¬ nz z w.heap.size 6 b = 1 ∧ nz z w.heap.size 6 b = j := fun j hj b hb hz => ⟨by omega, hz⟩
  exact ⟨h.footN hC 6, ⟨_, b, h2.sEv v xs⟩, hzg, (h.il.tr o (tr_label 7 (by decide))).tr o2 (t2 7 (by decide)), h.ic, (h.fl.tr o (tr_label 7 (by decide))).tr o2 (t2 7 (by decide)), h.fc, (h.nl.tr o (tr_label 7 (by decide))).tr o2 (t2 7 (by decide)), h.nc,
    (h.sa.tr o (tr_label 2 (by decide)) (tr_label 3 (by decide))).tr o2 (t2 2 (by decide)) (t2 3 (by decide)), (h.ha.tr o (tr_label 4 (by decide))).tr o2 (t2 4 (by decide)), h.hok, (h.ca.tr o (tr_label 5 (by decide))).tr o2 (t2 5 (by decide)), r.tr o2 (t2 6 (by decide))⟩
/-- The stack's row has turned, and is laid. -/
theorem MZ.sRow (h : MZ w C z g p K q c) (hC : ∀ b, w.heap.size ≤ b → C b) (o : Only (fun b => z b = 2) w w') (v : Value) (st : Int → Int) (r : SAt w' (fun b => nz z w.heap.size 2 b = 2) (fun b => nz z w.heap.size 2 b = 3) v p.far c st) :
    MZ (w'.setCell ⟨g, 61, none⟩ v) C (nz z w.heap.size 2) g { p with row := v } K { q with st := st } c := by
  obtain ⟨f, h1, h2⟩ := h.blk
  have b := (h1.only o (by rw [h.zg]; decide)).set_ 61 v
  rw [mArr_set] at b
  have hgl := h.lt
  have hzg : nz z w.heap.size 2 g = 1 := by rw [nz_lt z hgl]; exact h.zg
  have o2 : Only (fun b => nz z w.heap.size 2 b = 1) w' (w'.setCell ⟨g, 61, none⟩ v) := (Only.refl _ w').setCell (.inl hzg) v
  have t2 : ∀ (j : Nat), j ≠ 1 → ∀ b, b < w'.heap.size → nz z w.heap.size 2 b = j → ¬ nz z w.heap.size 2 b = 1 ∧ nz z w.heap.size 2 b = j := fun j hj b hb hz => ⟨by omega, hz⟩
  exact ⟨h.footN hC 2, ⟨_, b, (h2.sRow v).other st q.hp⟩, hzg, (h.il.tr o (tr_label 7 (by decide))).tr o2 (t2 7 (by decide)), h.ic, (h.fl.tr o (tr_label 7 (by decide))).tr o2 (t2 7 (by decide)), h.fc, (h.nl.tr o (tr_label 7 (by decide))).tr o2 (t2 7 (by decide)), h.nc,
    r.tr o2 (t2 2 (by decide)) (t2 3 (by decide)), (h.ha.tr o (tr_label 4 (by decide))).tr o2 (t2 4 (by decide)), h.hok, (h.ca.tr o (tr_label 5 (by decide))).tr o2 (t2 5 (by decide)), (h.ea.tr o (tr_label 6 (by decide))).tr o2 (t2 6 (by decide))⟩
/-- The stack has turned in its own blocks alone. -/
theorem MZ.sSt (h : MZ w C z g p K q c) (o : Only (fun b => z b = 2 ∨ z b = 3) w w') {c' : Nat} (hc : c ≤ c') (st : Int → Int) (r : SAt w' (fun b => z b = 2) (fun b => z b = 3) p.row p.far c' st) :
    MZ w' C z g p K { q with st := st } c' := by
  obtain ⟨f, h1, h2⟩ := h.blk
  have t : ∀ (j : Nat), j ≠ 2 → j ≠ 3 → ∀ b, b < w.heap.size → z b = j → ¬ (z b = 2 ∨ z b = 3) ∧ z b = j := fun j hj hk b hb hz => ⟨by omega, hz⟩
  exact ⟨h.foot, ⟨f, h1.only o (by rw [h.zg]; decide), h2.other st q.hp⟩, h.zg, h.il.tr o (t 7 (by decide) (by decide)), h.ic, h.fl.tr o (t 7 (by decide) (by decide)), h.fc, h.nl.tr o (t 7 (by decide) (by decide)), h.nc,
    r, (h.ha.tr o (t 4 (by decide) (by decide))).mono hc, h.hok, h.ca.tr o (t 5 (by decide) (by decide)), h.ea.tr o (t 6 (by decide) (by decide))⟩
/-- The heap has turned. -/
theorem MZ.sHp (h : MZ w C z g p K q c) (o : Only (fun b => z b = 4) w w') {c' : Nat} (hc : c ≤ c') (hp : QH) (r : HeapAt w' (fun b => z b = 4) p.hp c' hp) (ok : hp.Ok) :
    MZ w' C z g p K { q with hp := hp } c' := by
  obtain ⟨f, h1, h2⟩ := h.blk
  have t : ∀ (j : Nat), j ≠ 4 → ∀ b, b < w.heap.size → z b = j → ¬ (z b = 4) ∧ z b = j := fun j hj b hb hz => ⟨by omega, hz⟩
  exact ⟨h.foot, ⟨f, h1.only o (by rw [h.zg]; decide), h2.other q.st hp⟩, h.zg, h.il.tr o (t 7 (by decide)), h.ic, h.fl.tr o (t 7 (by decide)), h.fc, h.nl.tr o (t 7 (by decide)), h.nc,
    (h.sa.tr o (t 2 (by decide)) (t 3 (by decide))).mono hc, r, ok, h.ca.tr o (t 5 (by decide)), h.ea.tr o (t 6 (by decide))⟩
/-- The input's rest moves on. -/
theorem MZ.sInp (h : MZ w C z g p K q c) (a : Option Addr) (n : Nat) (xs : List Int) (hx : NL w (fun b => z b = 7) a xs) (hn : xs.length ≤ n) :
    MZ (w.setCell ⟨g, 3, none⟩ (.slice a xs.length n)) C z g { p with na := a, nc := n } K { q with inp := xs } c := by
  have o : Only (fun b => z b = 1) w (w.setCell ⟨g, 3, none⟩ (.slice a xs.length n)) := (Only.refl _ w).setCell (.inl h.zg) _
  have t : ∀ (j : Nat), j ≠ 1 → ∀ b, b < w.heap.size → z b = j → ¬ z b = 1 ∧ z b = j := fun j hj b hb hz => ⟨by omega, hz⟩
  obtain ⟨f, h1, h2⟩ := h.blk
  have b := h1.set_ 3 (.slice a xs.length n)
  rw [mArr_set] at b
  exact ⟨h.foot, ⟨_, b, h2.sInp a n xs⟩, h.zg, h.il.tr o (t 7 (by decide)), h.ic, h.fl.tr o (t 7 (by decide)), h.fc, hx.tr o (t 7 (by decide)), hn,
    h.sa.tr o (t 2 (by decide)) (t 3 (by decide)), h.ha.tr o (t 4 (by decide)), h.hok, h.ca.tr o (t 5 (by decide)), h.ea.tr o (t 6 (by decide))⟩
theorem MAt.keep (h : MAt w C g K q c) (o : Only F w w') (hF : ∀ b, b < w.heap.size → C b → ¬ F b) : MAt w' C g K q c := let ⟨z, p, h⟩ := h; ⟨z, p, h.keep o hF⟩
theorem MAt.mono (h : MAt w C g K q c) {c' : Nat} (hc : c ≤ c') : MAt w C g K q c' := let ⟨z, p, h⟩ := h; ⟨z, p, h.mono hc⟩
theorem MAt.more (h : MAt w C g K q c) (hG : ∀ b, b < w.heap.size → C b → D b) : MAt w D g K q c := let ⟨z, p, h⟩ := h; let ⟨z', h'⟩ := h.more hG; ⟨z', p, h'⟩
theorem MAt.drewN (h : MAt w C g K q c) (n : Nat) : MAt (w.drewN n) C g K q c := h.keep ((Only.refl (fun _ => False) w).drewN n) fun _ _ _ h => h
end
end Go.Proofs.Ytkjfbojmkkdgoaa
