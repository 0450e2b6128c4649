/- CodeWrite: the walks. -/
import Derived.Test.YtafhjpehkfcmjaaW48
set_option linter.unusedVariables false
set_option linter.unusedSimpArgs false
namespace Go.Proofs.Ytafhjpehkfcmjaa
open Go.RowKit
attribute [local go_sem ↓] Go.wp_at_zero Go.wp_at_succ
def i71 : Ins := ⟨-71, 0, 0, 0, 0⟩
def i27 : Ins := ⟨27, 0, 0, 0, 0⟩
def f71 : Fn := ⟨⟨#[]⟩, 0, -71, 0, 0⟩
theorem i71_in : InsIn i71 := ⟨by constructor <;> decide, by constructor <;> decide, by constructor <;> decide, by constructor <;> decide, by constructor <;> decide⟩
theorem i27_in : InsIn i27 := ⟨by constructor <;> decide, by constructor <;> decide, by constructor <;> decide, by constructor <;> decide, by constructor <;> decide⟩
theorem f71_in : FnIn f71 := ⟨by constructor <;> decide, by constructor <;> decide, by constructor <;> decide, by constructor <;> decide⟩
theorem IR.below {w w' : World} {H : Nat} {v : Value} {xs : List Ins} (h : IR w H v xs) (hb : Below w.heap.size w w') : IR w' H v xs := own_only h (Only.ofBelow (F := fun _ => False) hb) (fun _ _ h => h)
theorem FR.below {w w' : World} {H : Nat} {v : Value} {xs : List Fn} (h : FR w H v xs) (hb : Below w.heap.size w w') : FR w' H v xs := own_only h (Only.ofBelow (F := fun _ => False) hb) (fun _ _ h => h)
theorem IR.nil (w : World) (H : Nat) : IR w H (.slice none 0 0) [] := own_nil w H 41 5
theorem FR.nil (w : World) (H : Nat) : FR w H (.slice none 0 0) [] := own_nil w H 53 5
theorem own_cap {w : World} {base : Nat} {e : TypeId} {size n n' cap : Nat} {A : Option Addr} {xs : List Value} (h : w.ownsRow base e size (.slice A n' cap) n xs) : n' ≤ cap ∧ cap ≤ 9223372036854775807 := by
  obtain ⟨A', cap', e, q1, q2, _⟩ := own_shape h
  injection e with _ e1 e2
  subst e1 e2
  unfold maxLen at q2
  exact ⟨q1, q2⟩
theorem BR.off {w : World} {H n cap g : Nat} {A : Option Addr} {l : List UInt8} (h : BR w H (.slice A n cap) l) (hg : g < H) : BL w (fun b => b ≠ g) A l.length (lstF l) := fun i hi => by
  obtain ⟨_, _, ea, _, _, hh⟩ := own_shape h
  injection ea with ea _ _
  subst ea
  obtain ⟨g', eg, hge, hgl, _⟩ := hh (by omega)
  obtain ⟨b', off', e', _, h3, h4⟩ := h.bl i hi
  refine ⟨b', off', e', ?_, h3, h4⟩
  rw [eg] at e'
  injection e' with e'
  injection e' with e' _ _
  omega
theorem same_refl (w : World) (G G' : Nat → Prop) (A : Option Addr) (ni ci : Nat) (X : Nat → Ins) (B : Option Addr) (nf cf : Nat) (Fs : Nat → Fn) (m : Int) (A' : Option Addr) (ci' : Nat) (B' : Option Addr) (cf' : Nat) (hi : IL w G A ni X) (hf : FL w G B nf Fs) (hi' : IL w G' A' ni X) (hf' : FL w G' B' nf Fs) (hm : i64in m) (hci : ni ≤ ci) (hci' : ni ≤ ci') (hcf : nf ≤ cf) (hcf' : nf ≤ cf') :
    Calls Try.prog 20 #[.agg #[.slice A ni ci, .slice B nf cf, .int .i64 m], .agg #[.slice A' ni ci', .slice B' nf cf', .int .i64 m]] w fun e w' => e = .returned (.bool true) ∧ Below w.heap.size w w' := by
  refine (same_c w G G' A ni ci X B nf cf Fs m A' ni ci' X B' nf cf' Fs m hi hf hi' hf' hm hm hci hci' hcf hcf').mono ?_
  rintro e w' ⟨r, rfl, hr, hb⟩
  obtain rfl : r = true := hr.2 ⟨rfl, rfl, rfl, fun _ _ => rfl, fun _ _ => rfl⟩
  exact ⟨rfl, hb⟩
/-- The append at a step of a region that draws its order. -/
theorem step_grow {P : Program} {w : World} {ops : Array Oper} {o : Oper} {a : Act} {K : Act → World → Prop} {Q : Exit → Act → World → Prop} {E : Prop} (hgd : o.guard = none) (s x : Operand) (t : TypeId)
    (ho : o.op = .call { callee := .builtin .append, args := #[s, x], argTypes := #[t, t] }) (H : Nat)
    (e : TypeId) (i : TypeInfo) (z : Value) (size bytes : Nat) (ht : P.underlying t = some (.slice e)) (hi : P.info? e = some i) (hz : i.zero = some z)
    (hsize : i.size = size) (hby : i.bytes = bytes) (hzs : z.cells.size = size) (hsz : 0 < size)
    (v : Value) (n : Nat) (xs : List Value) (hs : a.eval s = v) (hown : w.ownsRow H e size v n xs)
    (ad : Option Addr) (m c : Nat) (news : List Value) (hx : a.eval x = .slice ad m c) (hl : news.length = m * size) (hnil : ad = none → m = 0) (hnews : ∀ a, ad = some a → ∀ j u, news[j]? = some u → w.cell? (a.add j) = some u) (h1 : ∀ u ∈ news, u.oneCell' = true)
    (h63 : n + m ≤ maxLen) (hbytes : (n + m) * bytes ≤ 140737488355328) (hH : H ≤ w.heap.size)
    (h : ∀ A cap w', w'.ownsRow H e size (.slice A (n + m) cap) (n + m) (xs ++ news) → Only (fun b => v.ownBlock = some b) w w' → K (a.put o.dst (.slice A (n + m) cap)) w') :
    if Region.wanted o (yielded ops a.tmps) = true then Oper.wp P o a w K Q else E := by
  have hw : Region.wanted o (yielded ops a.tmps) = true := by simp [Region.wanted, hgd]
  rw [if_pos hw]
  obtain ⟨A, cap, w', hr, h2, h3, h4⟩ := run_append_any (P := P) t o.type H e i z size bytes ht hi hz hsize hby hzs hsz v n xs hown ad m c news hl hnil hnews h1 h63 hbytes hH
  unfold Oper.wp execOp
  simp only [ho, resolve, invoke, builtin, Sem.run_bind, Sem.run_pure, Result.andThen_ok, List.map_toArray, List.map_cons, List.map_nil, hs, hx, hr]
  exact h A cap w' h2 ((Only.refl _ w).grown h3 fun j hj => .inl hj)
theorem step_inss {w : World} {ops : Array Oper} {o : Oper} {a : Act} {K : Act → World → Prop} {Q : Exit → Act → World → Prop} {E : Prop} (hgd : o.guard = none) (s x : Operand)
    (ho : o.op = .call { callee := .builtin .append, args := #[s, x], argTypes := #[22, 22] }) (H : Nat) (hs : a.eval s = .slice none 0 0) (hH : H ≤ w.heap.size)
    {G : Nat → Prop} (ad : Option Addr) (m c : Nat) (S : Nat → Ins) (hx : a.eval x = .slice ad m c) (hB : IL w G ad m S) (hN2 : m ≤ 1000000000)
    (h : ∀ A cap w', IR w' H (.slice A m cap) (tabX S m) → Below w.heap.size w w' → K (a.put o.dst (.slice A m cap)) w') :
    if Region.wanted o (yielded ops a.tmps) = true then Oper.wp Try.prog o a w K Q else E := by
  obtain ⟨i0, hi0, hz0, hz1, hz2⟩ := ins_info
  refine step_grow hgd s x 22 ho H 41 i0 _ 5 40 Try.underlying22 hi0 hz0 hz1 hz2 (by decide) (by omega) (.slice none 0 0) 0 [] hs (own_nil w H 41 5) ad m c (insCells (tabX S m)) hx (by rw [insCells_length, tabX_length]) hB.news.1 hB.news.2 (insCells_one _) (by unfold maxLen; omega) (by omega) hH ?_
  intro A cap w' hr ho
  rw [Nat.zero_add] at hr ⊢
  refine h A cap w' ?_ ho.nil
  unfold IR
  rw [tabX_length]
  exact hr
theorem step_fns {w : World} {ops : Array Oper} {o : Oper} {a : Act} {K : Act → World → Prop} {Q : Exit → Act → World → Prop} {E : Prop} (hgd : o.guard = none) (s x : Operand)
    (ho : o.op = .call { callee := .builtin .append, args := #[s, x], argTypes := #[23, 23] }) (H : Nat) (hs : a.eval s = .slice none 0 0) (hH : H ≤ w.heap.size)
    {G : Nat → Prop} (ad : Option Addr) (m c : Nat) (S : Nat → Fn) (hx : a.eval x = .slice ad m c) (hB : FL w G ad m S) (hN2 : m ≤ 1000000000)
    (h : ∀ A cap w', FR w' H (.slice A m cap) (tabF S m) → Below w.heap.size w w' → K (a.put o.dst (.slice A m cap)) w') :
    if Region.wanted o (yielded ops a.tmps) = true then Oper.wp Try.prog o a w K Q else E := by
  obtain ⟨i0, hi0, hz0, hz1, hz2⟩ := fn_info
  refine step_grow hgd s x 23 ho H 53 i0 _ 5 48 Try.underlying23 hi0 hz0 hz1 hz2 (by decide) (by omega) (.slice none 0 0) 0 [] hs (own_nil w H 53 5) ad m c (fnCells (tabF S m)) hx (by rw [fnCells_length, tabF_length]) hB.news.1 hB.news.2 (fnCells_one _) (by unfold maxLen; omega) (by omega) hH ?_
  intro A cap w' hr ho
  rw [Nat.zero_add] at hr ⊢
  refine h A cap w' ?_ ho.nil
  unfold FR
  rw [tabF_length]
  exact hr
/-- The code, the copies of its lists with one more at the end. -/
structure WK (w wr : World) (G : Nat → Prop) (A : Option Addr) (ni ci : Nat) (X : Nat → Ins) (B : Option Addr) (nf cf : Nat) (Fs : Nat → Fn) (m : Int) (g1 k1 g2 k2 : Nat) (W : Nat → Ins) (Z : Nat → Fn) : Prop where
  cb : CB w wr G A ni ci X B nf cf Fs m
  ir : IR wr (w.heap.size + 1) (.slice (some ⟨g1, 0, none⟩) (ni + 1) k1) (tabX W (ni + 1))
  fr : FR wr (w.heap.size + 1) (.slice (some ⟨g2, 0, none⟩) (nf + 1) k2) (tabF Z (nf + 1))
section
variable {w wr w2 : World} {G : Nat → Prop} {A B : Option Addr} {ni ci nf cf : Nat} {X : Nat → Ins} {Fs : Nat → Fn} {m : Int} {g1 k1 g2 k2 : Nat} {W : Nat → Ins} {Z : Nat → Fn}
theorem CB.grow (h : CB w wr G A ni ci X B nf cf Fs m) (hG : ∀ b, G b → b < w.heap.size) {e : TypeId} {size n : Nat} {v : Value} {xs : List Value} (hv : wr.ownsRow (w.heap.size + 1) e size v n xs) (o : Obj) (hg : (wr.alloc o).grownBy w2 v.ownBlock) : CB w w2 G A ni ci X B nf cf Fs m :=
  h.up hG (((Only.refl _ wr).alloc o).grown hg fun k hk => .inl (by have := (World.ownsRow.lt hv k hk).1; omega))
theorem WK.on (h : WK w wr G A ni ci X B nf cf Fs m g1 k1 g2 k2 W Z) (hb : Below wr.heap.size wr w2) : WK w w2 G A ni ci X B nf cf Fs m g1 k1 g2 k2 W Z :=
  ⟨h.cb.on hb, own_only h.ir (Only.ofBelow (F := fun _ => False) hb) (fun _ _ h => h), own_only h.fr (Only.ofBelow (F := fun _ => False) hb) (fun _ _ h => h)⟩
theorem own_grow {H H2 : Nat} {e e2 : TypeId} {size size2 n n2 : Nat} {v v2 : Value} {xs xs2 : List Value} (h : wr.ownsRow H e size v n xs) (hv : wr.ownsRow H2 e2 size2 v2 n2 xs2) (hne : e ≠ e2) (o : Obj) (hg : (wr.alloc o).grownBy w2 v2.ownBlock) : w2.ownsRow H e size v n xs :=
  own_only (own_only h ((Only.refl (fun _ => False) wr).alloc o) (fun _ _ h => h)) ((Only.refl (fun b => v2.ownBlock = some b) (wr.alloc o)).grown hg fun k hk => .inl hk) (fun b e1 e3 => own_ne_own h hv hne b e1 e3)
end
section
variable {w wr w2 : World} {G : Nat → Prop} {A B : Option Addr} {ni ci nf cf : Nat} {X : Nat → Ins} {Fs : Nat → Fn} {m : Int} {g1 k1 g2 k2 : Nat} {W : Nat → Ins} {Z : Nat → Fn}
theorem WK.ins (h : WK w wr G A ni ci X B nf cf Fs m g1 k1 g2 k2 W Z) (hW : ∀ i, i < ni + 1 → InsIn (W i)) (hn : ni ≤ 50000) {i : Nat} (hi : i < ni + 1) :
    wr.cell? ⟨g1, i * 5, none⟩ = some (.int .i64 (W i).op) ∧ wr.cell? ⟨g1, i * 5 + 1, none⟩ = some (.int .i64 (W i).a) ∧ wr.cell? ⟨g1, i * 5 + 2, none⟩ = some (.int .i64 (W i).b) ∧ wr.cell? ⟨g1, i * 5 + 3, none⟩ = some (.int .i64 (W i).c) ∧ wr.cell? ⟨g1, i * 5 + 4, none⟩ = some (.int .i64 (W i).n) := by
  obtain ⟨_, b, off, e, _, _, c0, c1, c2, c3, c4⟩ := (h.ir.part (X := W) hW (by omega) (Nat.le_refl _) (fun _ _ => rfl)).2 i hi
  injection e with e
  injection e with e1 e2 _
  subst e1 e2
  rw [Nat.zero_add] at c0 c1 c2 c3 c4
  exact ⟨c0, c1, c2, c3, c4⟩
theorem WK.ins71 (h : WK w wr G A ni ci X B nf cf Fs m g1 k1 g2 k2 (updX X ni i71) Z) (hW : ∀ i, i < ni + 1 → InsIn (updX X ni i71 i)) (hn : ni ≤ 50000) : wr.cell? ⟨g1, ni * 5, none⟩ = some (.int .i64 (-71)) := by
  have := (h.ins hW hn (Nat.lt_succ_self ni)).1
  rw [updX, if_pos rfl] at this
  exact this
theorem WK.fn71 (h : WK w wr G A ni ci X B nf cf Fs m g1 k1 g2 k2 W (updF Fs nf f71)) (hZ : ∀ i, i < nf + 1 → FnIn (updF Fs nf f71 i) ∧ (updF Fs nf f71 i).name.size ≤ 9223372036854775807) (hn : nf ≤ 1000) : wr.cell? ⟨g2, nf * 5 + 2, none⟩ = some (.int .i64 (-71)) := by
  obtain ⟨_, _, b, off, e, _, _, c0, c1, c2, c3, c4⟩ := (h.fr.part (X := updF Fs nf f71) hZ (by omega) (Nat.le_refl _) (fun _ _ => rfl)).2 nf (Nat.lt_succ_self nf)
  injection e with e
  injection e with e1 e2 _
  subst e1 e2
  rw [Nat.zero_add, updF, if_pos rfl] at c2
  exact c2
theorem WK.frozen (h : WK w wr G A ni ci X B nf cf Fs m g1 k1 g2 k2 W Z) (j : Nat) : wr.frozen? ⟨g1, j, none⟩ = false := by
  have hv := h.ir
  unfold IR at hv
  rw [tabX_length] at hv
  exact World.ownsRow.frozenAt hv j
end
/-- The same, with the code's box and the bytes that were written. -/
structure WT (w wr : World) (G : Nat → Prop) (A : Option Addr) (ni ci : Nat) (X : Nat → Ins) (B : Option Addr) (nf cf : Nat) (Fs : Nat → Fn) (m : Int) (g1 k1 g2 k2 : Nat) (W : Nat → Ins) (Z : Nat → Fn) (gx : Nat) (A6 A7 : Option Addr) (l : List UInt8) : Prop where
  k : WK w wr G A ni ci X B nf cf Fs m g1 k1 g2 k2 W Z
  bx : Blk wr gx 25 #[.slice (some ⟨g1, 0, none⟩) ni k1, .slice (some ⟨g2, 0, none⟩) nf k2, .int .i64 m]
  b1 : BL wr (fun b => b ≠ g1) A6 l.length (lstF l)
  b2 : BL wr (fun b => b ≠ g1) A7 l.length (lstF l)
  hx : gx ≠ g1
section
variable {w wr w2 : World} {G : Nat → Prop} {A B : Option Addr} {ni ci nf cf : Nat} {X : Nat → Ins} {Fs : Nat → Fn} {m : Int} {g1 k1 g2 k2 : Nat} {W : Nat → Ins} {Z : Nat → Fn} {gx : Nat} {A6 A7 : Option Addr} {l : List UInt8}
theorem WT.on (h : WT w wr G A ni ci X B nf cf Fs m g1 k1 g2 k2 W Z gx A6 A7 l) (hb : Below wr.heap.size wr w2) : WT w w2 G A ni ci X B nf cf Fs m g1 k1 g2 k2 W Z gx A6 A7 l :=
  ⟨h.k.on hb, h.bx.below hb h.bx.lt, h.b1.below hb, h.b2.below hb, h.hx⟩
theorem WT.put (h : WT w wr G A ni ci X B nf cf Fs m g1 k1 g2 k2 W Z gx A6 A7 l) (hG : ∀ b, G b → b < w.heap.size) {k : Nat} (hk : k < ni + 1) (x : Ins) : WT w (putI wr g1 k x) G A ni ci X B nf cf Fs m g1 k1 g2 k2 (updX W k x) Z gx A6 A7 l := by
  have hg := (World.ownsRow.lt h.k.ir g1 rfl).1
  have o := putI_only wr g1 k x
  exact ⟨⟨h.k.cb.up hG (o.mono fun b _ e => by omega), h.k.ir.put hk, own_only h.k.fr o (fun b e1 e2 => own_ne_own h.k.fr h.k.ir (by decide) b e1 (by subst e2; rfl))⟩, h.bx.only o h.hx, h.b1.only o (fun b _ hb e => hb e), h.b2.only o (fun b _ hb e => hb e), h.hx⟩
end
theorem WT.bxc {w wr : World} {G : Nat → Prop} {A B : Option Addr} {ni ci nf cf : Nat} {X : Nat → Ins} {Fs : Nat → Fn} {m : Int} {g1 k1 g2 k2 : Nat} {W : Nat → Ins} {Z : Nat → Fn} {gx : Nat} {A6 A7 : Option Addr} {l : List UInt8} (h : WT w wr G A ni ci X B nf cf Fs m g1 k1 g2 k2 W Z gx A6 A7 l) :
    wr.cell? ⟨gx, 0, none⟩ = some (.slice (some ⟨g1, 0, none⟩) ni k1) ∧ wr.cell? ⟨gx, 1, none⟩ = some (.slice (some ⟨g2, 0, none⟩) nf k2) ∧ wr.cell? ⟨gx, 2, none⟩ = some (.int .i64 m) := ⟨h.bx.cell 0, h.bx.cell 1, h.bx.cell 2⟩
/-- And with the copy of the code in its box. -/
structure WY (w wr : World) (G : Nat → Prop) (A : Option Addr) (ni ci : Nat) (X : Nat → Ins) (B : Option Addr) (nf cf : Nat) (Fs : Nat → Fn) (m : Int) (g1 k1 g2 k2 : Nat) (W : Nat → Ins) (Z : Nat → Fn) (gx : Nat) (A6 A7 : Option Addr) (l : List UInt8) (gy : Nat) (A9 : Option Addr) (c8 : Nat) (B9 : Option Addr) (c9 : Nat) : Prop where
  t : WT w wr G A ni ci X B nf cf Fs m g1 k1 g2 k2 W Z gx A6 A7 l
  p : IL wr (fun b => b < wr.heap.size) A9 ni (fun _ => i27)
  q : FL wr (fun b => b < wr.heap.size) B9 nf Fs
  y : Blk wr gy 25 #[.slice A9 ni c8, .slice B9 nf c9, .int .i64 m]
  h1 : ni ≤ c8
  h2 : nf ≤ c9
section
variable {w w11 w12 wr w2 : World} {G : Nat → Prop} {A B : Option Addr} {ni ci nf cf : Nat} {X : Nat → Ins} {Fs : Nat → Fn} {m : Int} {g1 k1 g2 k2 : Nat} {W : Nat → Ins} {Z : Nat → Fn} {gx gy : Nat} {A6 A7 A9 B9 : Option Addr} {l : List UInt8} {H c8 c9 : Nat}
theorem IR.all27 (h : IR wr H (.slice A9 ni c8) (tabX (fun _ => i27) ni)) (hn : ni ≤ 50000) : IL wr (fun b => b < wr.heap.size) A9 ni (fun _ => i27) := (h.part (fun _ _ => i27_in) (by omega) (Nat.le_refl _) (fun _ _ => rfl)).now
theorem FR.all (h : FR wr H (.slice A9 nf c8) (tabF Fs nf)) (hF : ∀ i, i < nf → FnIn (Fs i) ∧ (Fs i).name.size ≤ 9223372036854775807) (hn : nf ≤ 1000) : FL wr (fun b => b < wr.heap.size) A9 nf Fs := (h.part hF (by omega) (Nat.le_refl _) (fun _ _ => rfl)).now
theorem WY.a (T : WT w w11 G A ni ci X B nf cf Fs m g1 k1 g2 k2 W Z gx A6 A7 l) (P : IR w11 H (.slice A9 ni c8) (tabX (fun _ => i27) ni)) (hb : Below w11.heap.size w11 w12) (Q : FR w12 H (.slice B9 nf c9) (tabF Fs nf)) (hn : ni ≤ 50000) (hf : nf ≤ 1000) (hF : ∀ i, i < nf → FnIn (Fs i) ∧ (Fs i).name.size ≤ 9223372036854775807) :
    WY w (w12.alloc (.cells #[.slice A9 ni c8, .slice B9 nf c9, .int .i64 m] 25)) G A ni ci X B nf cf Fs m g1 k1 g2 k2 W Z gx A6 A7 l w12.heap.size A9 c8 B9 c9 := by
  have hb2 := (Below.refl w12.heap.size w12).alloc (Nat.le_refl _) (.cells #[.slice A9 ni c8, .slice B9 nf c9, .int .i64 m] 25)
  exact ⟨(T.on hb).on hb2, IR.all27 (IR.below (IR.below P hb) hb2) hn, FR.all (FR.below Q hb2) hF hf, Blk.new _ _ _, (own_cap P).1, (own_cap Q).1⟩
theorem WY.c (T : WT w w11 G A ni ci X B nf cf Fs m g1 k1 g2 k2 W Z gx A6 A7 l) (hb : Below w11.heap.size w11 w12) (P : IR w12 H (.slice A9 ni c8) (tabX (fun _ => i27) ni)) (Q : FR w12 H (.slice B9 nf c9) (tabF Fs nf)) (Y : Blk w12 w11.heap.size 25 #[.slice none 0 0, .slice none 0 0, .int .i64 0]) (hn : ni ≤ 50000) (hf : nf ≤ 1000) (hF : ∀ i, i < nf → FnIn (Fs i) ∧ (Fs i).name.size ≤ 9223372036854775807) :
    WY w (((w12.setCell ⟨w11.heap.size, 0, none⟩ (.slice A9 ni c8)).setCell ⟨w11.heap.size, 1, none⟩ (.slice B9 nf c9)).setCell ⟨w11.heap.size, 2, none⟩ (.int .i64 m)) G A ni ci X B nf cf Fs m g1 k1 g2 k2 W Z gx A6 A7 l w11.heap.size A9 c8 B9 c9 := by
  have hb2 : Below w11.heap.size w11 (((w12.setCell ⟨w11.heap.size, 0, none⟩ (.slice A9 ni c8)).setCell ⟨w11.heap.size, 1, none⟩ (.slice B9 nf c9)).setCell ⟨w11.heap.size, 2, none⟩ (.int .i64 m)) :=
    ((hb.setCell (Nat.le_refl _) _).setCell (Nat.le_refl _) _).setCell (Nat.le_refl _) _
  have o : Only (fun b => b = w11.heap.size) w12 (((w12.setCell ⟨w11.heap.size, 0, none⟩ (.slice A9 ni c8)).setCell ⟨w11.heap.size, 1, none⟩ (.slice B9 nf c9)).setCell ⟨w11.heap.size, 2, none⟩ (.int .i64 m)) :=
    (((Only.refl (fun b => b = w11.heap.size) w12).setCell (.inl rfl) _).setCell (.inl rfl) _).setCell (.inl rfl) _
  exact ⟨T.on hb2, IR.all27 (own_only P o (fun b e1 e2 => by subst e2; exact own_blk_ne P Y (by decide) e1)) hn, FR.all (own_only Q o (fun b e1 e2 => by subst e2; exact own_blk_ne Q Y (by decide) e1)) hF hf, ((Y.set_ 0 _).set_ 1 _).set_ 2 _, (own_cap P).1, (own_cap Q).1⟩
theorem WY.on (h : WY w wr G A ni ci X B nf cf Fs m g1 k1 g2 k2 W Z gx A6 A7 l gy A9 c8 B9 c9) (hb : Below wr.heap.size wr w2) : WY w w2 G A ni ci X B nf cf Fs m g1 k1 g2 k2 W Z gx A6 A7 l gy A9 c8 B9 c9 :=
  ⟨h.t.on hb, (h.p.below hb).now, (h.q.below hb).now, h.y.below hb h.y.lt, h.h1, h.h2⟩
end
set_option maxRecDepth 100000 in
set_option maxHeartbeats 16000000 in
theorem written_c (w : World) (G : Nat → Prop) (hG : ∀ b, G b → b < w.heap.size) (A : Option Addr) (ni ci : Nat) (X : Nat → Ins) (B : Option Addr) (nf cf : Nat) (Fs : Nat → Fn) (m : Int) (hi : IL w G A ni X) (hf : FL w G B nf Fs) (hci : ni ≤ ci) (hcf : nf ≤ cf) (hm : i64in m) (h1 : ni ≤ 50000) (h2 : nf ≤ 1000) :
    Calls Try.prog 14 #[codeV A ni ci B nf cf m] w fun e w' => e = .returned (.bool true) ∧ Below w.heap.size w w' := by
  have S0 : Hid (CB w (w.alloc (.cells #[.slice A ni ci, .slice B nf cf, .int .i64 m] 25)) G A ni ci X B nf cf Fs m) := CB.start hi hf
  have HG := Lib.hid hG
  have HM := Lib.hid hm
  have HXI : Hid (∀ i, i < ni → InsIn (X i)) := fun i h => (hi.2 i h).1
  have HFI : Hid (∀ i, i < nf → FnIn (Fs i) ∧ (Fs i).name.size ≤ 9223372036854775807) := fun i h => ⟨(hf.2 i h).1, (hf.2 i h).2.1⟩
  clear hi hf hG hm
  have HN0 : Hid (([] : List Ins).length + ni = ni) := Nat.zero_add _
  have HN1 : Hid (ni ≤ 1000000000) := by show _ ≤ _; omega
  have HN2 : Hid (([] : List Fn).length + nf = nf) := Nat.zero_add _
  have HN3 : Hid (nf ≤ 1000000000) := by show _ ≤ _; omega
  have HL1 : Hid (([] ++ tabX X ni).length ≤ 300000000) := by show _ ≤ _; rw [List.nil_append, tabX_length]; omega
  have HL2 : Hid (([] ++ tabF Fs nf).length ≤ 300000000) := by show _ ≤ _; rw [List.nil_append, tabF_length]; omega
  have HH : Hid (w.heap.size + 1 ≤ (w.alloc (.cells #[.slice A ni ci, .slice B nf cf, .int .i64 m] 25)).heap.size) := by show _ ≤ _; simp
  unfold codeV
  go_enter Try.func14, Try.ntmps14
  go_upto_region 5 with (first
    | (have X3 := V3; at_builtin; go_must (refine wpList_pushF rfl (.tmp 27) (.tmp 29) rfl f71 rfl V3.out S3.out.b1.lt w3.heap.size rfl rfl HL2.out ?_); go_must (intro g2 k2 w4 hv4 hg4; have S4 := Lib.hid (S3.out.grow HG.out V3.out _ hg4); have V4 := Lib.hid hv4; have V2c := Lib.hid (own_grow V2b.out V3.out (by decide) _ hg4); have d0 : w4.cell? ⟨w.heap.size, 0, none⟩ = some (.slice A ni ci) := S4.out.b1.cell 0; have d1 : w4.cell? ⟨w.heap.size, 1, none⟩ = some (.slice B nf cf) := S4.out.b1.cell 1; have d2 : w4.cell? ⟨w.heap.size, 2, none⟩ = some (.int .i64 m) := S4.out.b1.cell 2; clear hv4 hg4 S3 V3 V2b))
    | (have X2 := V2; at_builtin; go_must (refine wpList_fns rfl (.const (.slice none 0 0)) (.tmp 25) rfl rfl (FR.nil _ (w.heap.size + 1)) S2.out.b1.lt rfl S2.out.fl nf HN2.out HN3.out ?_); go_must (intro A3 c3 w3 hv3 ho3 _; have S3 := Lib.hid (S2.out.on ho3.nil); have V3 := Lib.hid hv3; have V2b := Lib.hid (own_only V2.out (Only.ofBelow (F := fun _ => False) ho3.nil) (fun _ _ h => h)); clear hv3 ho3 S2 V2))
    | (have X1 := V1; at_builtin; go_must (refine wpList_pushI rfl (.tmp 20) (.tmp 22) rfl i71 rfl V1.out S1.out.b1.lt w1.heap.size rfl rfl HL1.out ?_); go_must (intro g1 k1 w2 hv2 hg2; have S2 := Lib.hid (S1.out.grow HG.out V1.out _ hg2); have V2 := Lib.hid hv2; have b1 : w2.cell? ⟨w.heap.size, 1, none⟩ = some (.slice B nf cf) := S2.out.b1.cell 1; clear hv2 hg2 S1 V1))
    | (at_builtin; go_must (refine wpList_inss rfl (.const (.slice none 0 0)) (.tmp 18) rfl rfl (IR.nil _ (w.heap.size + 1)) HH.out rfl S0.out.il ni HN0.out HN1.out ?_); go_must (intro A1 c1 w1 hv1 ho1 _; have S1 := Lib.hid (S0.out.on ho1.nil); have V1 := Lib.hid hv1; clear hv1 ho1 S0)))
  have hlX : ([] ++ tabX X ni).length = ni := by rw [List.nil_append, tabX_length]
  have hlF : ([] ++ tabF Fs nf).length = nf := by rw [List.nil_append, tabF_length]
  rw [tabX_length, tabF_length]
  have K4 : Hid (WK w w4 G A ni ci X B nf cf Fs m g1 k1 g2 k2 (updX X ni i71) (updF Fs nf f71)) := by
    have v2 := V2c.out
    have v4 := V4.out
    rw [hlX, List.nil_append] at v2
    rw [hlF, List.nil_append] at v4
    refine ⟨S4.out, ?_, ?_⟩
    · unfold IR
      rw [tabX_length, ← tabX_push, insCells_append]
      exact v2
    · unfold FR
      rw [tabF_length, ← tabF_push, fnCells_append]
      exact v4
  have HYI : Hid (∀ i, i < ni + 1 → InsIn (updX X ni i71 i)) := fun i hi => by
    unfold updX
    split
    · exact i71_in
    · exact HXI.out i (by omega)
  have HZF : Hid (∀ i, i < nf + 1 → FnIn (updF Fs nf f71 i) ∧ (updF Fs nf f71 i).name.size ≤ 9223372036854775807) := fun i hi => by
    unfold updF
    split
    · exact ⟨f71_in, Nat.zero_le _⟩
    · exact HFI.out i (by omega)
  clear X1 X2 X3 S4 V2c V4 HN0 HN1 HN2 HN3 HL1 HL2 HH hlX hlF b1
  obtain ⟨q1, q2⟩ := own_cap K4.out.ir
  obtain ⟨r1, r2⟩ := own_cap K4.out.fr
  have i1 : (0 : Int) ≤ (ni : Int) := by omega
  have i2 : (ni : Int) ≤ (k1 : Int) := by omega
  have i3 : (0 : Int) ≤ (nf : Int) := by omega
  have i4 : (nf : Int) ≤ (k2 : Int) := by omega
  have hl4 := K4.out.cb.b1.lt
  go_region
  have hb5 := ((Below.refl w4.heap.size w4).alloc (Nat.le_refl _) (.cells #[.slice (some ⟨g1, 0, none⟩) ni k1, .slice (some ⟨g2, 0, none⟩) nf k2, .int .i64 m] 25)).drew
  have K5 := Lib.hid (K4.out.on hb5)
  have X5 := Lib.hid (Blk.new w4 25 #[.slice (some ⟨g1, 0, none⟩) ni k1, .slice (some ⟨g2, 0, none⟩) nf k2, .int .i64 m]).drew
  have hg1 : g1 < w4.heap.size := (World.ownsRow.lt K4.out.ir g1 rfl).2
  have hg3 : w.heap.size < g1 := (World.ownsRow.lt K4.out.ir g1 rfl).1
  clear hb5 K4 d0 d1 d2
  generalize (w4.alloc (.cells #[.slice (some ⟨g1, 0, none⟩) ni k1, .slice (some ⟨g2, 0, none⟩) nf k2, .int .i64 m] 25)).drew = w5 at *
  generalize w4.heap.size = gx at *
  have I5 : Hid (IL w5 (fun b => b < w5.heap.size) (some ⟨g1, 0, none⟩) ni X) := (K5.out.ir.part HYI.out (by omega) (by omega) (fun i hi => if_neg (by omega))).now
  have F5 : Hid (FL w5 (fun b => b < w5.heap.size) (some ⟨g2, 0, none⟩) nf Fs) := (K5.out.fr.part HZF.out (by omega) (by omega) (fun i hi => if_neg (by omega))).now
  have e0 : w5.cell? ⟨gx, 0, none⟩ = some (.slice (some ⟨g1, 0, none⟩) ni k1) := X5.out.cell 0
  have e1 : w5.cell? ⟨gx, 1, none⟩ = some (.slice (some ⟨g2, 0, none⟩) nf k2) := X5.out.cell 1
  have e2 : w5.cell? ⟨gx, 2, none⟩ = some (.int .i64 m) := X5.out.cell 2
  go_wp2_with fail
  refine (write_c w5 _ (fun b h => h) (some ⟨g1, 0, none⟩) ni k1 X (some ⟨g2, 0, none⟩) nf k2 Fs m I5.out (by omega) F5.out (by omega) HM.out (by omega) (by omega)).mono ?_
  intro e w6 hr
  obtain ⟨A6, c6, rfl, hv6, hb6⟩ := write_one hr
  have hgx := X5.out.lt
  have K6 := Lib.hid (K5.out.on hb6)
  have X6 := Lib.hid (X5.out.below hb6 X5.out.lt)
  have V6 := Lib.hid hv6
  have hw6 : gx < w6.heap.size := X6.out.lt
  have d0 : w6.cell? ⟨w.heap.size, 0, none⟩ = some (.slice A ni ci) := K6.out.cb.b1.cell 0
  have d1 : w6.cell? ⟨w.heap.size, 1, none⟩ = some (.slice B nf cf) := K6.out.cb.b1.cell 1
  have d2 : w6.cell? ⟨w.heap.size, 2, none⟩ = some (.int .i64 m) := K6.out.cb.b1.cell 2
  clear hr hv6 hb6 K5 X5 I5 F5 e0 e1 e2
  go_wp2_with fail
  refine (dwrite_c w6 G (fun b h => Nat.lt_trans (HG.out b h) (by omega)) A ni ci X B nf cf Fs m K6.out.cb.il hci K6.out.cb.fl hcf HM.out (by omega) (by omega)).mono ?_
  intro e w7 hr
  obtain ⟨A7, c7, rfl, hv7, hb7⟩ := write_one hr
  have hg57 : g1 < w5.heap.size := by omega
  have hg67 : g1 < w6.heap.size := by omega
  have T7 : Hid (WT w w7 G A ni ci X B nf cf Fs m g1 k1 g2 k2 (updX X ni i71) (updF Fs nf f71) gx A6 A7 (outL ni X nf Fs m)) :=
    ⟨K6.out.on hb7, X6.out.below hb7 X6.out.lt, (V6.out.off hg57).below hb7, hv7.off hg67, by omega⟩
  clear hr hv7 hb7 K6 X6 V6 d0 d1 d2
  go_upto_region 8 with fail
  generalize outL ni X nf Fs m = l at *
  generalize outR ni X nf Fs m = rr at *
  have d0 : w7.cell? ⟨w.heap.size, 0, none⟩ = some (.slice A ni ci) := T7.out.k.cb.b1.cell 0
  have d1 : w7.cell? ⟨w.heap.size, 1, none⟩ = some (.slice B nf cf) := T7.out.k.cb.b1.cell 1
  have d2 : w7.cell? ⟨w.heap.size, 2, none⟩ = some (.int .i64 m) := T7.out.k.cb.b1.cell 2
  have e0 : w7.cell? ⟨gx, 0, none⟩ = some (.slice (some ⟨g1, 0, none⟩) ni k1) := T7.out.bx.cell 0
  have e1 : w7.cell? ⟨gx, 1, none⟩ = some (.slice (some ⟨g2, 0, none⟩) nf k2) := T7.out.bx.cell 1
  have e2 : w7.cell? ⟨gx, 2, none⟩ = some (.int .i64 m) := T7.out.bx.cell 2
  have s6 : (convert 28 9 (.slice A6 l.length c6)).run Try.prog w7 = .ok (.string (nameOf (slc (lstF l) 0 l.length))) w7 := bytes_string0 T7.out.b1
  have s7 : (convert 28 9 (.slice A7 l.length c7)).run Try.prog w7 = .ok (.string (nameOf (slc (lstF l) 0 l.length))) w7 := bytes_string0 T7.out.b2
  generalize nameOf (slc (lstF l) 0 l.length) = ss at *
  have I7 : Hid (IL w7 (fun b => b < w7.heap.size) (some ⟨g1, 0, none⟩) ni X) := (T7.out.k.ir.part HYI.out (by omega) (by omega) (fun i hi => if_neg (by omega))).now
  have F7 : Hid (FL w7 (fun b => b < w7.heap.size) (some ⟨g2, 0, none⟩) nf Fs) := (T7.out.k.fr.part HZF.out (by omega) (by omega) (fun i hi => if_neg (by omega))).now
  have SM := Lib.hid (same_refl w7 _ _ (some ⟨g1, 0, none⟩) ni k1 X (some ⟨g2, 0, none⟩) nf k2 Fs m A ci B cf I7.out F7.out T7.out.k.cb.il T7.out.k.cb.fl HM.out (by omega) hci (by omega) hcf)
  clear I7 F7
  go_wp2_with (first
    | (go_at_call 22; refine (num_d _ _).mono ?_; rintro e w9 ⟨rfl, rfl⟩)
    | (go_at_call 20; refine SM.out.mono ?_; rintro e w8 ⟨rfl, hb8⟩; have T8 := Lib.hid (T7.out.on hb8); clear hb8 T7 d0 d1 d2 e0 e1 e2 s6 s7; have d0 : w8.cell? ⟨w.heap.size, 0, none⟩ = some (.slice A ni ci) := T8.out.k.cb.b1.cell 0; have d1 : w8.cell? ⟨w.heap.size, 1, none⟩ = some (.slice B nf cf) := T8.out.k.cb.b1.cell 1; have x8 := T8.out.k.ins71 HYI.out h1; have y8 := T8.out.k.fn71 HZF.out h2))
  clear d0 d1 x8 y8 SM
  go_loopw [11] (fun iv wx => ∃ (k : Nat) (W : Nat → Ins), k ≤ ni + 1 ∧ iv = .int .i64 (k : Int) ∧ Hid (∀ i, i < ni + 1 → InsIn (W i)) ∧ Hid (∀ i, i < k → W i = i27) ∧ Hid (WT w wx G A ni ci X B nf cf Fs m g1 k1 g2 k2 W (updF Fs nf f71) gx A6 A7 l)) (fun iv _ => ni + 1 - (intOf iv).toNat)
  case atStart => exact ⟨0, updX X ni i71, by omega, rfl, HYI, fun i hi => absurd hi (Nat.not_lt_zero _), T8⟩
  case round =>
    clear T8 HYI
    obtain ⟨k, W, hk, rfl, HW, H27, T⟩ := hrel
    by_cases hkl : k < ni + 1
    · obtain ⟨x0, x1, x2, x3, x4⟩ := T.out.k.ins HW.out h1 hkl
      have z := T.out.k.frozen
      have T2 := Lib.hid (T.out.put HG.out hkl i27)
      have HW2 : Hid (∀ i, i < ni + 1 → InsIn (updX W k i27 i)) := fun i hi => by
        unfold updX
        split
        · exact i27_in
        · exact HW.out i hi
      have H272 : Hid (∀ i, i < k + 1 → updX W k i27 i = i27) := fun i hi => by
        unfold updX
        split
        · rfl
        · exact H27.out i (by omega)
      clear T HW H27
      have j1 : (k : Int) < ((ni + 1 : Nat) : Int) := by omega
      generalize (W k).op = v0 at *
      generalize (W k).a = v1 at *
      generalize (W k).b = v2 at *
      generalize (W k).c = v3 at *
      generalize (W k).n = v4 at *
      go_wp2_with fail
      go_roundw
      case rel => exact ⟨k + 1, _, by omega, by go_num, HW2, H272, T2⟩
      case measure => first | (simp [intOf]; done) | (simp [intOf]; omega)
    · obtain rfl : k = ni + 1 := by omega
      have W5 : Hid (IL wr (fun b => b < wr.heap.size) (some ⟨g1, 0, none⟩) ni (fun _ => i27)) := (T.out.k.ir.part HW.out (by omega) (by omega) (fun i hi => H27.out i (by omega))).now
      have Z5 : Hid (FL wr (fun b => b < wr.heap.size) (some ⟨g2, 0, none⟩) nf Fs) := (T.out.k.fr.part HZF.out (by omega) (by omega) (fun i hi => if_neg (by omega))).now
      have e0 : wr.cell? ⟨gx, 0, none⟩ = some (.slice (some ⟨g1, 0, none⟩) ni k1) := T.out.bx.cell 0
      have e1 : wr.cell? ⟨gx, 1, none⟩ = some (.slice (some ⟨g2, 0, none⟩) nf k2) := T.out.bx.cell 1
      have e2 : wr.cell? ⟨gx, 2, none⟩ = some (.int .i64 m) := T.out.bx.cell 2
      have hgl := T.out.bx.lt
      have hbd := (Below.refl wr.heap.size wr).drew
      have W6 := Lib.hid (W5.out.below hbd)
      have Z6 := Lib.hid (Z5.out.below hbd)
      have HBD := Lib.hid hbd
      have HBC : Hid (Below wr.heap.size wr (wr.alloc (.cells #[.slice none 0 0, .slice none 0 0, .int .i64 0] 25)).drew) := ((Below.refl wr.heap.size wr).alloc (Nat.le_refl _) _).drew
      have W6c := Lib.hid (W5.out.below HBC.out)
      have Z6c := Lib.hid (Z5.out.below HBC.out)
      have HH : Hid (wr.heap.size ≤ wr.drew.heap.size) := Nat.le_refl _
      have HHc : Hid (wr.heap.size ≤ (wr.alloc (.cells #[.slice none 0 0, .slice none 0 0, .int .i64 0] 25)).drew.heap.size) := HBC.out.size
      have YC : Hid (Blk (wr.alloc (.cells #[.slice none 0 0, .slice none 0 0, .int .i64 0] 25)).drew wr.heap.size 25 #[.slice none 0 0, .slice none 0 0, .int .i64 0]) := (Blk.new wr 25 _).drew
      have HN1 : Hid (ni ≤ 1000000000) := by show _ ≤ _; omega
      have HN2 : Hid (nf ≤ 1000000000) := by show _ ≤ _; omega
      clear W5 Z5 hbd
      go_upto_region 13 with fail
      go_cut [12] from 100 (fun yv wx => ∃ gy A9 c8 B9 c9, yv = .pointer (some ⟨gy, 0, none⟩) ∧ Hid (WY w wx G A ni ci X B nf cf Fs m g1 k1 g2 k2 W (updF Fs nf f71) gx A6 A7 l gy A9 c8 B9 c9))
      case first =>
        go_region_held3 (fun w' => w'.cell? ⟨gx, 0, none⟩ = some (.slice (some ⟨g1, 0, none⟩) ni k1) ∧ w'.cell? ⟨gx, 1, none⟩ = some (.slice (some ⟨g2, 0, none⟩) nf k2) ∧ w'.cell? ⟨gx, 2, none⟩ = some (.int .i64 m))
          (first | (go_keep; done) | exact K2 | exact K1 | exact YB.out.t.bxc)
          ((first
            | (have U1 := P1; refine step_fns (by rfl) (.const (.slice none 0 0)) (.tmp 104) (by rfl) wr.heap.size (by rfl) HWb.out (some ⟨g2, 0, none⟩) nf k2 Fs (by rfl) Zb.out HN2.out ?_; intro B9 c9 w12 hv12 hb12; have hT := Below.trans hba.out (hb12.mono hba.out.size); have Y3 := Blk.below Ybox.out hb12 Ybox.out.lt; have YB := Lib.hid (WY.c T11.out hT (IR.below P1.out hT) hv12 Y3 h1 h2 HFI.out); have K2 := (T11.out.on hT).bxc; have g12 := (T11.out.on hT).bx.lt; have y0 : w12.cell? ⟨w11.heap.size, 0, none⟩ = some (.slice none 0 0) := Y3.cell 0; have y1 : w12.cell? ⟨w11.heap.size, 1, none⟩ = some (.slice none 0 0) := Y3.cell 1; have y2 : w12.cell? ⟨w11.heap.size, 2, none⟩ = some (.int .i64 0) := Y3.cell 2; have yz : ∀ j, w12.frozen? ⟨w11.heap.size, j, none⟩ = false := Y3.frozen; have yl := Y3.lt; clear U1 Y3 hT hv12 hb12)
            | (have U1 := P1; refine step_fns (by rfl) (.const (.slice none 0 0)) (.tmp 104) (by rfl) wr.heap.size (by rfl) HW1.out (some ⟨g2, 0, none⟩) nf k2 Fs (by rfl) Z7.out HN2.out ?_; intro B9 c9 w12 hv12 hb12; have YB := Lib.hid (WY.a T11.out P1.out hb12 hv12 h1 h2 HFI.out); have K2 := (T11.out.on hb12).bxc; have g12 := (T11.out.on hb12).bx.lt; clear U1 hv12 hb12)
            | (have U1 := P1c; refine step_fns (by rfl) (.const (.slice none 0 0)) (.tmp 104) (by rfl) wr.heap.size (by rfl) HWc.out (some ⟨g2, 0, none⟩) nf k2 Fs (by rfl) Zc.out HN2.out ?_; intro B9 c9 w12 hv12 hb12; have hT := Below.trans HB11.out (hb12.mono HB11.out.size); have Y3 := Blk.below Yc.out hb12 Yc.out.lt; have YB := Lib.hid (WY.c T.out hT (IR.below P1c.out hb12) hv12 Y3 h1 h2 HFI.out); have K2 := (T.out.on hT).bxc; have g12 := (T.out.on hT).bx.lt; have y0 : w12.cell? ⟨wr.heap.size, 0, none⟩ = some (.slice none 0 0) := Y3.cell 0; have y1 : w12.cell? ⟨wr.heap.size, 1, none⟩ = some (.slice none 0 0) := Y3.cell 1; have y2 : w12.cell? ⟨wr.heap.size, 2, none⟩ = some (.int .i64 0) := Y3.cell 2; have yz : ∀ j, w12.frozen? ⟨wr.heap.size, j, none⟩ = false := Y3.frozen; have yl := Y3.lt; clear U1 Y3 hT hv12 hb12)
            | (refine step_inss (by rfl) (.const (.slice none 0 0)) (.tmp 101) (by rfl) wr.heap.size (by rfl) HH.out (some ⟨g1, 0, none⟩) ni k1 (fun _ => i27) (by rfl) W6.out HN1.out ?_; intro A9 c8 w11 hv11 hb11; have hba := Lib.hid ((Below.refl w11.heap.size w11).alloc (Nat.le_refl _) (.cells #[.slice none 0 0, .slice none 0 0, .int .i64 0] 25)); have P1 := Lib.hid hv11; have T11 := Lib.hid ((T.out.on HBD.out).on hb11); have Z7 := Lib.hid (Z6.out.below hb11); have Zb := Lib.hid (Z7.out.below hba.out); have HW1 := Lib.hid hb11.size; have HWb := Lib.hid (Nat.le_trans hb11.size hba.out.size); have Ybox := Lib.hid (Blk.new w11 25 #[.slice none 0 0, .slice none 0 0, .int .i64 0]); have K1 := T11.out.bxc; have g11 := T11.out.bx.lt; clear hv11 hb11)
            | (refine step_inss (by rfl) (.const (.slice none 0 0)) (.tmp 101) (by rfl) wr.heap.size (by rfl) HHc.out (some ⟨g1, 0, none⟩) ni k1 (fun _ => i27) (by rfl) W6c.out HN1.out ?_; intro A9 c8 w11 hv11 hb11; have P1c := Lib.hid hv11; have HB11 := Lib.hid (HBC.out.trans (hb11.mono HBC.out.size)); have Zc := Lib.hid (Z6c.out.below hb11); have HWc := Lib.hid HB11.out.size; have Yc := Lib.hid (YC.out.below hb11 YC.out.lt); have K1 := (T.out.on HB11.out).bxc; have g11 := (T.out.on HB11.out).bx.lt; clear hv11 hb11)))
        all_goals go_wp2_with fail
        all_goals
          go_meet
          case rel => exact ⟨_, _, _, _, _, rfl, YB⟩
      case rest =>
      obtain ⟨gy, A9, c8, B9, c9, rfl, Y⟩ := hcut
      clear W6 Z6 HBD HBC W6c Z6c HH HHc YC HN1 HN2 e0 e1 e2 T
      have e0 : wc.cell? ⟨gx, 0, none⟩ = some (.slice (some ⟨g1, 0, none⟩) ni k1) := Y.out.t.bx.cell 0
      have e1 : wc.cell? ⟨gx, 1, none⟩ = some (.slice (some ⟨g2, 0, none⟩) nf k2) := Y.out.t.bx.cell 1
      have e2 : wc.cell? ⟨gx, 2, none⟩ = some (.int .i64 m) := Y.out.t.bx.cell 2
      have W5 : Hid (IL wc (fun b => b < wc.heap.size) (some ⟨g1, 0, none⟩) ni (fun _ => i27)) := (Y.out.t.k.ir.part HW.out (by omega) (by omega) (fun i hi => H27.out i (by omega))).now
      have Z5 : Hid (FL wc (fun b => b < wc.heap.size) (some ⟨g2, 0, none⟩) nf Fs) := (Y.out.t.k.fr.part HZF.out (by omega) (by omega) (fun i hi => if_neg (by omega))).now
      go_wp2_with fail
      refine (write_c wc _ (fun b h => h) (some ⟨g1, 0, none⟩) ni k1 (fun _ => i27) (some ⟨g2, 0, none⟩) nf k2 Fs m W5.out (by omega) Z5.out (by omega) HM.out (by omega) (by omega)).mono ?_
      intro e w14 hr
      obtain ⟨A10, c10, rfl, hv14, hb14⟩ := write_one hr
      have Y14 := Lib.hid (Y.out.on hb14)
      have V14 := Lib.hid hv14
      have f0 : w14.cell? ⟨gy, 0, none⟩ = some (.slice A9 ni c8) := Y14.out.y.cell 0
      have f1 : w14.cell? ⟨gy, 1, none⟩ = some (.slice B9 nf c9) := Y14.out.y.cell 1
      have f2 : w14.cell? ⟨gy, 2, none⟩ = some (.int .i64 m) := Y14.out.y.cell 2
      clear hr hv14 hb14 Y W5 Z5 e0 e1 e2
      go_wp2_with fail
      refine (dwrite_c w14 _ (fun b h => h) A9 ni c8 (fun _ => i27) B9 nf c9 Fs m Y14.out.p Y14.out.h1 Y14.out.q Y14.out.h2 HM.out (by omega) (by omega)).mono ?_
      intro e w15 hr
      obtain ⟨A11, c11, rfl, hv15, hb15⟩ := write_one hr
      have Y15 := Lib.hid (Y14.out.on hb15)
      have V15 := Lib.hid (V14.out.bl.below hb15)
      have V16 := Lib.hid hv15.bl
      clear hr hv15 hb15 Y14 V14 f0 f1 f2
      generalize outL ni (fun _ => i27) nf Fs m = l2 at *
      generalize outR ni (fun _ => i27) nf Fs m = r3 at *
      have s6 : (convert 28 9 (.slice A6 l.length c6)).run Try.prog w15 = .ok (.string (nameOf (slc (lstF l) 0 l.length))) w15 := bytes_string0 Y15.out.t.b1
      have s7 : (convert 28 9 (.slice A7 l.length c7)).run Try.prog w15 = .ok (.string (nameOf (slc (lstF l) 0 l.length))) w15 := bytes_string0 Y15.out.t.b2
      have s10 : (convert 28 9 (.slice A10 l2.length c10)).run Try.prog w15 = .ok (.string (nameOf (slc (lstF l2) 0 l2.length))) w15 := bytes_string0 V15.out
      have s11 : (convert 28 9 (.slice A11 l2.length c11)).run Try.prog w15 = .ok (.string (nameOf (slc (lstF l2) 0 l2.length))) w15 := bytes_string0 V16.out
      generalize nameOf (slc (lstF l) 0 l.length) = ss1 at *
      generalize nameOf (slc (lstF l2) 0 l2.length) = ss2 at *
      have B15 := Lib.hid Y15.out.t.k.cb.below
      clear V15 V16 Y15
      go_wp2_with (go_at_call 22; refine (num_d _ _).mono ?_; rintro e w9 ⟨rfl, rfl⟩)
      go_ret
      exact ⟨rfl, B15.out⟩
set_option maxRecDepth 100000 in
set_option maxHeartbeats 16000000 in
theorem codeWrite_c (w : World) (G : Nat → Prop) (hG : ∀ b, G b → b < w.heap.size) (A : Option Addr) (ni ci : Nat) (X : Nat → Ins) (B : Option Addr) (nf cf : Nat) (Fs : Nat → Fn) (m : Int) (hi : IL w G A ni X) (hf : FL w G B nf Fs) (hci : ni ≤ ci) (hcf : nf ≤ cf) (hm : i64in m) :
    Calls Try.prog 3 #[codeV A ni ci B nf cf m] w fun e w' => e = .returned (.bool true) ∧ Below w.heap.size w w' := by
  have HG := Lib.hid hG
  have HM := Lib.hid hm
  have S0 : Hid (CB w (w.alloc (.cells #[.slice A ni ci, .slice B nf cf, .int .i64 m] 25)) G A ni ci X B nf cf Fs m) := CB.start hi hf
  clear hi hf hG hm
  unfold codeV
  go_enter Try.func3, Try.ntmps3
  go_wp2_with fail
  refine (fits_c _ G A ni ci X B nf cf Fs m S0.out.il S0.out.fl hci hcf).mono ?_
  rintro e w2 ⟨r, rfl, hr, hb2⟩
  have S2 := Lib.hid (S0.out.on hb2)
  clear hb2 S0
  cases r with
  | false =>
    clear hr
    go_wp2_with fail
    go_ret
    exact ⟨rfl, S2.out.below⟩
  | true =>
    obtain ⟨n1', n2'⟩ := hr rfl
    go_wp2_with fail
    refine (alive_c w2).mono ?_
    rintro e w3 ⟨rfl, hb3⟩
    have S3 := Lib.hid (S2.out.on hb3)
    clear hb3 S2 hr
    have c0 : w3.cell? ⟨w.heap.size, 0, none⟩ = some (.slice A ni ci) := S3.out.b1.cell 0
    have c1 : w3.cell? ⟨w.heap.size, 1, none⟩ = some (.slice B nf cf) := S3.out.b1.cell 1
    have c2 : w3.cell? ⟨w.heap.size, 2, none⟩ = some (.int .i64 m) := S3.out.b1.cell 2
    have hl3 := S3.out.b1.lt
    go_wp2_with fail
    have hG3 : ∀ b, G b → b < w3.heap.size := fun b hb => Nat.lt_trans (HG.out b hb) hl3
    refine (written_c w3 G hG3 A ni ci X B nf cf Fs m S3.out.il S3.out.fl hci hcf HM.out n1' n2').mono ?_
    rintro e w4 ⟨rfl, hb4⟩
    have S4 := Lib.hid (S3.out.on hb4)
    clear hb4 S3 c0 c1 c2
    go_wp2_with fail
    go_ret
    exact ⟨rfl, S4.out.below⟩
end Go.Proofs.Ytafhjpehkfcmjaa
