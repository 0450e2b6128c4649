/- the document's Read: what it keeps. -/
import Derived.Test.YtafhjpehkfcmjaaW32
set_option linter.unusedVariables false
set_option linter.unusedSimpArgs false
namespace Go.Proofs.Ytafhjpehkfcmjaa
open Go.RowKit
structure DM (w wr : World) (G : Nat → Prop) (A : Option Addr) (L c : Nat) (Bf : Nat → UInt8) (gc : Nat) (iv fv : Value) (xs : List Ins) (fs : List Fn) (p : Nat) (bad : Bool) (m : Int) : Prop where
  b : Blk wr (w.heap.size + 1) 78 (lcells (.slice A L c) p bad)
  rc : Blk wr w.heap.size 25 #[.slice none 0 0, .slice none 0 0, .int .i64 0]
  cb : Blk wr gc 25 #[iv, fv, .int .i64 m]
  bl : BL wr G A L Bf
  im : IR wr w.heap.size iv xs
  fm : FR wr w.heap.size fv fs
  bw : Below w.heap.size w wr
  hgc : w.heap.size + 1 < gc
section
variable {w wr w2 : World} {G : Nat → Prop} {A : Option Addr} {L c : Nat} {Bf : Nat → UInt8} {gc : Nat} {iv fv nv : Value} {xs : List Ins} {fs : List Fn} {p p' : Nat} {bad bad' : Bool} {m m' : Int} {x : Ins} {f : Fn}
theorem DM.turn (hG : ∀ b, G b → b < w.heap.size) (h : DM w wr G A L c Bf gc iv fv xs fs p bad m) (o : Only (fun b => b = w.heap.size + 1) wr w2) (hb : Blk w2 (w.heap.size + 1) 78 (lcells (.slice A L c) p' bad')) : DM w w2 G A L c Bf gc iv fv xs fs p' bad' m := by
  have hgc := h.hgc
  have hlt := h.b.lt
  exact ⟨hb, h.rc.only o (fun e => by omega), h.cb.only o (fun e => by omega), h.bl.only o (fun b _ hb e => by have := hG b hb; omega), own_only h.im o (fun b hb e => own_blk_ne h.im h.b (by decide) (e ▸ hb)), own_only h.fm o (fun b hb e => own_blk_ne h.fm h.b (by decide) (e ▸ hb)), h.bw.trans (o.toBelow (by omega) fun k hk e => by omega), hgc⟩
theorem DM.quiet (h : DM w wr G A L c Bf gc iv fv xs fs p bad m) (o : Only (fun _ => False) wr w2) : DM w w2 G A L c Bf gc iv fv xs fs p bad m := by
  have hlt := h.b.lt
  exact ⟨h.b.only o (fun h => h), h.rc.only o (fun h => h), h.cb.only o (fun h => h), h.bl.only o (fun _ _ _ h => h), own_only h.im o (fun _ _ h => h), own_only h.fm o (fun _ _ h => h), h.bw.trans (o.toBelow (by omega) fun _ _ h => h), h.hgc⟩
theorem DM.main (hG : ∀ b, G b → b < w.heap.size) (h : DM w wr G A L c Bf gc iv fv xs fs p bad m) (m' : Int) : DM w (wr.setCell ⟨gc, 2, none⟩ (.int .i64 m')) G A L c Bf gc iv fv xs fs p bad m' := by
  have o : Only (fun b => b = gc) wr (wr.setCell ⟨gc, 2, none⟩ (.int .i64 m')) := (Only.refl (fun b => b = gc) wr).setCell (.inl rfl) _
  have hgc := h.hgc
  have hlt := h.b.lt
  exact ⟨h.b.only o (fun e => by omega), h.rc.only o (fun e => by omega), h.cb.set_ 2 _, h.bl.only o (fun b _ hb e => by have := hG b hb; omega), own_only h.im o (fun b hb e => own_blk_ne h.im h.cb (by decide) (e ▸ hb)), own_only h.fm o (fun b hb e => own_blk_ne h.fm h.cb (by decide) (e ▸ hb)), h.bw.trans (o.toBelow (by omega) fun k hk e => by omega), hgc⟩
/-- A step that turns other blocks alone: of another type, or new. -/
theorem DM.put53 (hG : ∀ b, G b → b < w.heap.size) (h : DM w wr G A L c Bf gc iv fv xs fs p bad m) {g : Nat} {cs : Array Value} (hg : Blk wr g 53 cs) (hgw : w.heap.size < g) (hne : fv.ownBlock ≠ some g) (j : Nat) (u : Value) : DM w (wr.setCell ⟨g, j, none⟩ u) G A L c Bf gc iv fv xs fs p bad m := by
  have o : Only (fun b => b = g) wr (wr.setCell ⟨g, j, none⟩ u) := (Only.refl (fun b => b = g) wr).setCell (.inl rfl) _
  have hgc := h.hgc
  have hlt := h.b.lt
  exact ⟨h.b.only o (fun e => Blk.ne_ hg h.b (by decide) e.symm), h.rc.only o (fun e => by omega), h.cb.only o (fun e => Blk.ne_ hg h.cb (by decide) e.symm), h.bl.only o (fun b _ hb e => by have := hG b hb; omega), own_only h.im o (fun b hb e => own_blk_ne h.im hg (by decide) (e ▸ hb)), own_only h.fm o (fun b hb e => hne (e ▸ hb)), h.bw.trans (o.toBelow (by omega) fun k hk e => by omega), hgc⟩
theorem DM.take (hG : ∀ b, G b → b < w.heap.size) (h : DM w wr G A L c Bf gc iv fv xs fs p bad m) (hp : p ≤ L) (hL : L ≤ 300000000) (hc : L ≤ c) (hc2 : c ≤ 9223372036854775807) {n lo hi : Nat} (hn : 1 ≤ n) (hn2 : n ≤ 8) (hlo : lo < 18446744073709551616) (hhi : hi < 18446744073709551616) {ni li hi' : Int} (e1 : ni = (n : Int)) (e2 : li = (lo : Int)) (e3 : hi' = (hi : Int)) :
    Calls Try.prog 35 #[.pointer (some ⟨w.heap.size + 1, 0, none⟩), .int .i64 ni, .int .u64 li, .int .u64 hi'] wr fun e w' => ∃ v p' bad', e = .returned (.int .i64 v) ∧ i64in v ∧ DM w w' G A L c Bf gc iv fv xs fs p' bad' m ∧ p' ≤ L ∧ NumR Bf L n lo hi p bad p' bad' v ∧ Only (fun b => b = w.heap.size + 1) wr w' := by
  subst e1 e2 e3
  refine (take_c wr G A L c Bf (w.heap.size + 1) p bad n lo hi h.b h.bl (fun g => by have := hG _ g; omega) hp hL hc hc2 hn hn2 hlo hhi).mono ?_
  rintro e w' ⟨v, p', bad', rfl, hv, hb, ho, hR⟩
  exact ⟨v, p', bad', rfl, hv, h.turn hG ho hb, hR.le hp, hR, ho⟩
/-- One function more, one instruction more. -/
theorem DM.appendF (hG : ∀ b, G b → b < w.heap.size) (h : DM w wr G A L c Bf gc iv fv xs fs p bad m) (hown : w2.ownsRow w.heap.size 53 5 nv (fs.length + 1) (fnCells fs ++ fnCells [f])) (hg : wr.grownBy w2 fv.ownBlock) :
    DM w (w2.setCell ⟨gc, 1, none⟩ nv) G A L c Bf gc iv nv xs (fs ++ [f]) p bad m := by
  have o1 : Only (fun b => fv.ownBlock = some b) wr w2 := (Only.refl _ _).grown hg fun j hj => .inl hj
  have hfl := fun b hb => World.ownsRow.lt h.fm b hb
  have o2 : Only (fun b => b = gc) w2 (w2.setCell ⟨gc, 1, none⟩ nv) := (Only.refl (fun b => b = gc) w2).setCell (.inl rfl) _
  have hgc := h.hgc
  have hlt := h.b.lt
  have c1 := h.cb.only o1 (fun e => own_blk_ne h.fm h.cb (by decide) e)
  have b1 := h.b.only o1 (fun e => own_blk_ne h.fm h.b (by decide) e)
  have r1 := h.rc.only o1 (fun e => own_blk_ne h.fm h.rc (by decide) e)
  have im1 : IR w2 w.heap.size iv xs := own_only h.im o1 (fun b hb => own_ne_own h.im h.fm (by decide) b hb)
  have bl1 := h.bl.only o1 (fun b _ hb e => by have := hG b hb; have := (hfl b e).1; omega)
  have fm1 : FR w2 w.heap.size nv (fs ++ [f]) := by
    unfold FR
    rw [fnCells_append, List.length_append]
    exact hown
  have hlt1 := b1.lt
  exact ⟨b1.only o2 (fun e => by omega), r1.only o2 (fun e => by omega), c1.set_ 1 nv, bl1.only o2 (fun b _ hb e => by have := hG b hb; omega), own_only im1 o2 (fun b hb e => own_blk_ne im1 c1 (by decide) (e ▸ hb)), own_only fm1 o2 (fun b hb e => own_blk_ne fm1 c1 (by decide) (e ▸ hb)), (h.bw.trans (o1.toBelow (by omega) fun k hk e => by have := (hfl k e).1; omega)).trans (o2.toBelow (by omega) fun k hk e => by omega), hgc⟩
theorem DM.appendI (hG : ∀ b, G b → b < w.heap.size) (h : DM w wr G A L c Bf gc iv fv xs fs p bad m) (hown : w2.ownsRow w.heap.size 41 5 nv (xs.length + 1) (insCells xs ++ insCells [x])) (hg : wr.grownBy w2 iv.ownBlock) :
    DM w (w2.setCell ⟨gc, 0, none⟩ nv) G A L c Bf gc nv fv (xs ++ [x]) fs p bad m ∧ ∀ g cs, Blk wr g 53 cs → Blk (w2.setCell ⟨gc, 0, none⟩ nv) g 53 cs := by
  have o1 : Only (fun b => iv.ownBlock = some b) wr w2 := (Only.refl _ _).grown hg fun j hj => .inl hj
  have hfl := fun b hb => World.ownsRow.lt h.im b hb
  have o2 : Only (fun b => b = gc) w2 (w2.setCell ⟨gc, 0, none⟩ nv) := (Only.refl (fun b => b = gc) w2).setCell (.inl rfl) _
  have hgc := h.hgc
  have hlt := h.b.lt
  have c1 := h.cb.only o1 (fun e => own_blk_ne h.im h.cb (by decide) e)
  have b1 := h.b.only o1 (fun e => own_blk_ne h.im h.b (by decide) e)
  have r1 := h.rc.only o1 (fun e => own_blk_ne h.im h.rc (by decide) e)
  have fm1 : FR w2 w.heap.size fv fs := own_only h.fm o1 (fun b hb => own_ne_own h.fm h.im (by decide) b hb)
  have bl1 := h.bl.only o1 (fun b _ hb e => by have := hG b hb; have := (hfl b e).1; omega)
  have im1 : IR w2 w.heap.size nv (xs ++ [x]) := by
    unfold IR
    rw [insCells_append, List.length_append]
    exact hown
  have hlt1 := b1.lt
  refine ⟨⟨b1.only o2 (fun e => by omega), r1.only o2 (fun e => by omega), c1.set_ 0 nv, bl1.only o2 (fun b _ hb e => by have := hG b hb; omega), own_only im1 o2 (fun b hb e => own_blk_ne im1 c1 (by decide) (e ▸ hb)), own_only fm1 o2 (fun b hb e => own_blk_ne fm1 c1 (by decide) (e ▸ hb)), (h.bw.trans (o1.toBelow (by omega) fun k hk e => by have := (hfl k e).1; omega)).trans (o2.toBelow (by omega) fun k hk e => by omega), hgc⟩, fun g cs hk => ?_⟩
  have k1 : Blk w2 g 53 cs := hk.only o1 (fun e => own_blk_ne h.im hk (by decide) e)
  exact k1.only o2 (fun e => Blk.ne_ k1 c1 (by decide) e)
end
theorem fun_plainD {Bf : Nat → UInt8} {L p u mm : Nat} {fs : List Fn} {s : ByteArray} {p1 p3 p7 p8 p9 : Nat} {bad1 bad3 bad7 bad8 bad9 : Bool} {v1 v7 v8 v9 : Int} (R1 : NumR Bf L 1 1 64 p false p1 bad1 v1) (hu : v1.toNat = u) (hN : (bad1 = true ∧ bad3 = true ∧ p3 = p1) ∨ (bad1 = false ∧ NamR Bf L p1 u fs s p3 bad3))
    (R7 : NumR Bf L 8 2 1099511627776 p3 bad3 p7 bad7 v7) (R8 : NumR Bf L 4 1 4294967295 p7 bad7 p8 bad8 v8) (R9 : NumR Bf L 1 0 (mostOf fs.length mm) p8 bad8 p9 bad9 v9) :
    (bad9 = true ∧ ∀ k, run Bf L (pFn mm fs k) p = .bad p9) ∨ (bad9 = false ∧ p + 15 ≤ p9 ∧ FnG mm fs ⟨s, v7, firstL fs, v8, v9⟩ ∧ ∀ k, run Bf L (pFn mm fs k) p = run Bf L (k ⟨s, v7, firstL fs, v8, v9⟩) p9) := by
  rcases R1 with ⟨h, _⟩ | ⟨_, rfl, _, h1⟩ | ⟨_, rfl, rfl, hL1, y, rfl, y1, y2, _, h1⟩
  · cases h
  · rcases hN with ⟨_, rfl, rfl⟩ | ⟨h, _⟩
    · rcases R7 with ⟨_, rfl, rfl⟩ | ⟨h, _⟩ | ⟨h, _⟩
      · rcases R8 with ⟨_, rfl, rfl⟩ | ⟨h, _⟩ | ⟨h, _⟩
        · rcases R9 with ⟨_, rfl, rfl⟩ | ⟨h, _⟩ | ⟨h, _⟩
          · exact .inl ⟨rfl, fun k => h1 _⟩
          · cases h
          · cases h
        · cases h
        · cases h
      · cases h
      · cases h
    · cases h
  · rcases hN with ⟨h, _⟩ | ⟨_, hN⟩
    · cases h
    · have w1 : IntKind.i64.wrap (y : Int) = y := wrap_i64 ⟨by omega, by omega⟩
      rw [w1, Int.toNat_natCast] at hu
      subst hu
      exact fun_plain y1 h1 hN R7 R8 R9
theorem nameR_of {Bf : Nat → UInt8} {L p p1 : Nat} {bad1 : Bool} {v1 : Int} (R1 : NumR Bf L 1 1 64 p false p1 bad1 v1) : bad1 = false → v1 = (v1.toNat : Int) ∧ 1 ≤ v1.toNat ∧ v1.toNat ≤ 64 := by
  intro hb
  rcases R1 with ⟨h, _⟩ | ⟨_, rfl, _, h1⟩ | ⟨_, rfl, rfl, hL1, y, rfl, y1, y2, _, h1⟩
  · cases h
  · cases hb
  · have w1 : IntKind.i64.wrap (y : Int) = y := wrap_i64 ⟨by omega, by omega⟩
    rw [w1]
    omega
/-- The same, and a head that is being filled. -/
structure DF (w wr : World) (G : Nat → Prop) (A : Option Addr) (L c : Nat) (Bf : Nat → UInt8) (gc : Nat) (iv : Value) (FA : Option Addr) (fcap : Nat) (xs : List Ins) (fs : List Fn) (p : Nat) (bad : Bool) (m : Int) (g : Nat) (ff : Array Value) : Prop where
  dm : DM w wr G A L c Bf gc iv (.slice FA fs.length fcap) xs fs p bad m
  fb : Blk wr g 53 ff
  ne : (Value.slice FA fs.length fcap).ownBlock ≠ some g
  hg : w.heap.size < g
section
variable {w wr w2 : World} {G : Nat → Prop} {A : Option Addr} {L c : Nat} {Bf : Nat → UInt8} {gc : Nat} {iv nv : Value} {FA : Option Addr} {fcap : Nat} {xs : List Ins} {fs : List Fn} {p p' : Nat} {bad bad' : Bool} {m m' : Int} {x : Ins} {f : Fn} {g : Nat} {ff : Array Value}
theorem DF.start (h : DM w wr G A L c Bf gc iv (.slice FA fs.length fcap) xs fs p bad m) (ff : Array Value) : DF w (wr.alloc (.cells ff 53)) G A L c Bf gc iv FA fcap xs fs p bad m wr.heap.size ff :=
  ⟨h.quiet ((Only.refl _ wr).alloc _), Blk.new wr 53 ff, fun e => by have := (World.ownsRow.lt h.fm _ e).2; omega, by have := h.b.lt; omega⟩
theorem DF.put (hG : ∀ b, G b → b < w.heap.size) (h : DF w wr G A L c Bf gc iv FA fcap xs fs p bad m g ff) (j : Nat) (u : Value) : DF w (wr.setCell ⟨g, j, none⟩ u) G A L c Bf gc iv FA fcap xs fs p bad m g (ff.setIfInBounds j u) :=
  ⟨h.dm.put53 hG h.fb h.hg h.ne j u, h.fb.set_ j u, h.ne, h.hg⟩
theorem DF.take (hG : ∀ b, G b → b < w.heap.size) (h : DF w wr G A L c Bf gc iv FA fcap xs fs p bad m g ff) (hp : p ≤ L) (hL : L ≤ 300000000) (hc : L ≤ c) (hc2 : c ≤ 9223372036854775807) {n lo hi : Nat} (hn : 1 ≤ n) (hn2 : n ≤ 8) (hlo : lo < 18446744073709551616) (hhi : hi < 18446744073709551616) {ni li hi' : Int} (e1 : ni = (n : Int)) (e2 : li = (lo : Int)) (e3 : hi' = (hi : Int)) :
    Calls Try.prog 35 #[.pointer (some ⟨w.heap.size + 1, 0, none⟩), .int .i64 ni, .int .u64 li, .int .u64 hi'] wr fun e w' => ∃ v p' bad', e = .returned (.int .i64 v) ∧ i64in v ∧ DF w w' G A L c Bf gc iv FA fcap xs fs p' bad' m g ff ∧ p' ≤ L ∧ NumR Bf L n lo hi p bad p' bad' v := by
  refine (h.dm.take hG hp hL hc hc2 hn hn2 hlo hhi e1 e2 e3).mono ?_
  rintro e w' ⟨v, p', bad', rfl, hv, hd, hp', hR, ho⟩
  exact ⟨v, p', bad', rfl, hv, ⟨hd, h.fb.only ho (fun e => Blk.ne_ h.fb h.dm.b (by decide) e), h.ne, h.hg⟩, hp', hR⟩
theorem DF.name (hG : ∀ b, G b → b < w.heap.size) (h : DF w wr G A L c Bf gc iv FA fcap xs fs p bad m g ff) (hp : p ≤ L) (hL : L ≤ 300000000) (hc : L ≤ c) (hc2 : c ≤ 9223372036854775807) (hfs : fs.length ≤ 300000000) {v : Int} {u : Nat} (hv0 : i64in v) (hv : bad = false → v = (u : Int) ∧ 1 ≤ u ∧ u ≤ 64) :
    Calls Try.prog 36 #[.pointer (some ⟨w.heap.size + 1, 0, none⟩), .int .i64 v, .slice FA fs.length fcap] wr fun e w' => ∃ s p' bad', e = .returned (.string s) ∧ s.size ≤ 64 ∧ DF w w' G A L c Bf gc iv FA fcap xs fs p' bad' m g ff ∧ p' ≤ L ∧ ((bad = true ∧ bad' = true ∧ p' = p) ∨ (bad = false ∧ NamR Bf L p u fs s p' bad')) := by
  refine (namef_c wr w.heap.size G A L c Bf (w.heap.size + 1) p bad v u fs FA fcap h.dm.b h.dm.bl (fun g => by have := hG _ g; omega) hp hL hc hc2 h.dm.fm hfs hv0 hv).mono ?_
  rintro e w' ⟨s, p', bad', rfl, hs, hb, ho, hp', hR⟩
  exact ⟨s, p', bad', rfl, hs, ⟨h.dm.turn hG ho hb, h.fb.only ho (fun e => Blk.ne_ h.fb h.dm.b (by decide) e), h.ne, h.hg⟩, hp', hR⟩
end
theorem wpList_pushF {w0 : World} {ops : Array Oper} {rest : List Oper} {o : Oper} {a : Act} {Q : Exit → Act → World → Prop} (hgd : o.guard = none) (s y : Operand)
    (ho : o.op = .call { callee := .builtin .append, args := #[s, y], argTypes := #[23, 23] }) {H : Nat} {v : Value} {l : List Fn} (x : Fn) (hs : a.eval s = v) (hown : FR w0 H v l) (hH : H ≤ w0.heap.size)
    (N : Nat) (hN : w0.heap.size = N) (hx : a.eval y = .slice (some ⟨N, 0, none⟩) 1 1) (hl : l.length ≤ 300000000)
    (h : ∀ g cap w', w'.ownsRow H 53 5 (.slice (some ⟨g, 0, none⟩) (l.length + 1) cap) (l.length + 1) (fnCells l ++ fnCells [x]) → (w0.alloc (.cells #[.string x.name, .int .i64 x.frame, .int .i64 x.first, .int .i64 x.count, .int .i64 x.params] 53)).grownBy w' v.ownBlock → wpList Try.prog ops Q rest (a.put o.dst (.slice (some ⟨g, 0, none⟩) (l.length + 1) cap)) w') :
    wpList Try.prog ops Q (o :: rest) a (w0.alloc (.cells #[.string x.name, .int .i64 x.frame, .int .i64 x.first, .int .i64 x.count, .int .i64 x.params] 53)) := by
  subst hN
  obtain ⟨i0, hi0, hz0, hz1, hz2⟩ := fn_info
  refine wpList_append_lies _ hgd s y 23 ho H 53 i0 _ 5 48 Try.underlying23 hi0 hz0 hz1 hz2 rfl (by omega) v l.length (fnCells l) hs (own_only hown (F := fun _ => False) ((Only.refl _ w0).alloc _) (fun _ _ h => h)) ⟨w0.heap.size, 0, none⟩ 1 1 [.string x.name, .int .i64 x.frame, .int .i64 x.first, .int .i64 x.count, .int .i64 x.params] hx rfl (World.news_of_block (cs := #[.string x.name, .int .i64 x.frame, .int .i64 x.first, .int .i64 x.count, .int .i64 x.params]) (t := 53) (fr := (0, 0)) (heap_alloc_new _ _)) (by simp [Value.oneCell']) (by omega) (by unfold maxLen; omega) (by omega) (by simp; omega) (w0.heap.size + 1) (by simp) ?_
  intro g cap w' hr hg _ _
  exact h g cap w' hr hg
theorem wpList_pushI {w0 : World} {ops : Array Oper} {rest : List Oper} {o : Oper} {a : Act} {Q : Exit → Act → World → Prop} (hgd : o.guard = none) (s y : Operand)
    (ho : o.op = .call { callee := .builtin .append, args := #[s, y], argTypes := #[22, 22] }) {H : Nat} {v : Value} {l : List Ins} (x : Ins) (hs : a.eval s = v) (hown : IR w0 H v l) (hH : H ≤ w0.heap.size)
    (N : Nat) (hN : w0.heap.size = N) (hx : a.eval y = .slice (some ⟨N, 0, none⟩) 1 1) (hl : l.length ≤ 300000000)
    (h : ∀ g cap w', w'.ownsRow H 41 5 (.slice (some ⟨g, 0, none⟩) (l.length + 1) cap) (l.length + 1) (insCells l ++ insCells [x]) → (w0.alloc (.cells #[.int .i64 x.op, .int .i64 x.a, .int .i64 x.b, .int .i64 x.c, .int .i64 x.n] 41)).grownBy w' v.ownBlock → wpList Try.prog ops Q rest (a.put o.dst (.slice (some ⟨g, 0, none⟩) (l.length + 1) cap)) w') :
    wpList Try.prog ops Q (o :: rest) a (w0.alloc (.cells #[.int .i64 x.op, .int .i64 x.a, .int .i64 x.b, .int .i64 x.c, .int .i64 x.n] 41)) := by
  subst hN
  obtain ⟨i0, hi0, hz0, hz1, hz2⟩ := ins_info
  refine wpList_append_lies _ hgd s y 22 ho H 41 i0 _ 5 40 Try.underlying22 hi0 hz0 hz1 hz2 rfl (by omega) v l.length (insCells l) hs (own_only hown (F := fun _ => False) ((Only.refl _ w0).alloc _) (fun _ _ h => h)) ⟨w0.heap.size, 0, none⟩ 1 1 [.int .i64 x.op, .int .i64 x.a, .int .i64 x.b, .int .i64 x.c, .int .i64 x.n] hx rfl (World.news_of_block (cs := #[.int .i64 x.op, .int .i64 x.a, .int .i64 x.b, .int .i64 x.c, .int .i64 x.n]) (t := 41) (fr := (0, 0)) (heap_alloc_new _ _)) (by simp [Value.oneCell']) (by omega) (by unfold maxLen; omega) (by omega) (by simp; omega) (w0.heap.size + 1) (by simp) ?_
  intro g cap w' hr hg _ _
  exact h g cap w' hr hg
end Go.Proofs.Ytafhjpehkfcmjaa
