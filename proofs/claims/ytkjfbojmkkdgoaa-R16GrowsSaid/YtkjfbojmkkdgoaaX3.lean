/- r16's machine: its cells; the simple methods. -/
import Derived.Test.YtkjfbojmkkdgoaaX2
set_option linter.unusedVariables false
set_option linter.unusedSimpArgs false
namespace Go.Proofs.Ytkjfbojmkkdgoaa
open Go.RowKit
section
variable {w : World} {C : Nat → Prop} {z : Nat → Nat} {g : Nat} {p : MP} {K : MK} {q : MQ} {c : Nat}
theorem MZ.k0 (h : MZ w C z g p K q c) : w.cell? ⟨g, 0, none⟩ = some (.slice p.ia K.ni p.ic) := let ⟨f, h1, h2⟩ := h.blk; (h1.cell 0).trans ((mArr_get f (by decide)).trans (congrArg some h2.c0))
theorem MZ.k1 (h : MZ w C z g p K q c) : w.cell? ⟨g, 1, none⟩ = some (.slice p.fa K.nf p.fc) := let ⟨f, h1, h2⟩ := h.blk; (h1.cell 1).trans ((mArr_get f (by decide)).trans (congrArg some h2.c1))
theorem MZ.k2 (h : MZ w C z g p K q c) : w.cell? ⟨g, 2, none⟩ = some (.int .i64 K.mn) := let ⟨f, h1, h2⟩ := h.blk; (h1.cell 2).trans ((mArr_get f (by decide)).trans (congrArg some h2.c2))
theorem MZ.k3 (h : MZ w C z g p K q c) : w.cell? ⟨g, 3, none⟩ = some (.slice p.na q.inp.length p.nc) := let ⟨f, h1, h2⟩ := h.blk; (h1.cell 3).trans ((mArr_get f (by decide)).trans (congrArg some h2.c3))
theorem MZ.k4 (h : MZ w C z g p K q c) : w.cell? ⟨g, 4, none⟩ = some (.int .i64 K.sl) := let ⟨f, h1, h2⟩ := h.blk; (h1.cell 4).trans ((mArr_get f (by decide)).trans (congrArg some h2.c4))
theorem MZ.k5 (h : MZ w C z g p K q c) : w.cell? ⟨g, 5, none⟩ = some (.int .i64 K.hl) := let ⟨f, h1, h2⟩ := h.blk; (h1.cell 5).trans ((mArr_get f (by decide)).trans (congrArg some h2.c5))
theorem MZ.k61 (h : MZ w C z g p K q c) : w.cell? ⟨g, 61, none⟩ = some (p.row) := let ⟨f, h1, h2⟩ := h.blk; (h1.cell 61).trans ((mArr_get f (by decide)).trans (congrArg some h2.c61))
theorem MZ.k62 (h : MZ w C z g p K q c) : w.cell? ⟨g, 62, none⟩ = some (.map (some p.far)) := let ⟨f, h1, h2⟩ := h.blk; (h1.cell 62).trans ((mArr_get f (by decide)).trans (congrArg some h2.c62))
theorem MZ.k63 (h : MZ w C z g p K q c) : w.cell? ⟨g, 63, none⟩ = some (.pointer (some ⟨p.hp, 0, none⟩)) := let ⟨f, h1, h2⟩ := h.blk; (h1.cell 63).trans ((mArr_get f (by decide)).trans (congrArg some h2.c63))
theorem MZ.k64 (h : MZ w C z g p K q c) : w.cell? ⟨g, 64, none⟩ = some (.int .i64 q.at_) := let ⟨f, h1, h2⟩ := h.blk; (h1.cell 64).trans ((mArr_get f (by decide)).trans (congrArg some h2.c64))
theorem MZ.k65 (h : MZ w C z g p K q c) : w.cell? ⟨g, 65, none⟩ = some (.int .i64 q.fr) := let ⟨f, h1, h2⟩ := h.blk; (h1.cell 65).trans ((mArr_get f (by decide)).trans (congrArg some h2.c65))
theorem MZ.k66 (h : MZ w C z g p K q c) : w.cell? ⟨g, 66, none⟩ = some (.int .i64 q.sz) := let ⟨f, h1, h2⟩ := h.blk; (h1.cell 66).trans ((mArr_get f (by decide)).trans (congrArg some h2.c66))
theorem MZ.k67 (h : MZ w C z g p K q c) : w.cell? ⟨g, 67, none⟩ = some (p.cv) := let ⟨f, h1, h2⟩ := h.blk; (h1.cell 67).trans ((mArr_get f (by decide)).trans (congrArg some h2.c67))
theorem MZ.k68 (h : MZ w C z g p K q c) : w.cell? ⟨g, 68, none⟩ = some (p.ev) := let ⟨f, h1, h2⟩ := h.blk; (h1.cell 68).trans ((mArr_get f (by decide)).trans (congrArg some h2.c68))
theorem MZ.k69 (h : MZ w C z g p K q c) : w.cell? ⟨g, 69, none⟩ = some (.int .i64 q.fin) := let ⟨f, h1, h2⟩ := h.blk; (h1.cell 69).trans ((mArr_get f (by decide)).trans (congrArg some h2.c69))
theorem MZ.k70 (h : MZ w C z g p K q c) : w.cell? ⟨g, 70, none⟩ = some (.int .i64 q.kind) := let ⟨f, h1, h2⟩ := h.blk; (h1.cell 70).trans ((mArr_get f (by decide)).trans (congrArg some h2.c70))
theorem MZ.k71 (h : MZ w C z g p K q c) : w.cell? ⟨g, 71, none⟩ = some (.int .i64 q.val) := let ⟨f, h1, h2⟩ := h.blk; (h1.cell 71).trans ((mArr_get f (by decide)).trans (congrArg some h2.c71))
theorem MZ.k72 (h : MZ w C z g p K q c) : w.cell? ⟨g, 72, none⟩ = some (.int .i64 q.steps) := let ⟨f, h1, h2⟩ := h.blk; (h1.cell 72).trans ((mArr_get f (by decide)).trans (congrArg some h2.c72))
theorem MZ.k73 (h : MZ w C z g p K q c) : w.cell? ⟨g, 73, none⟩ = some (.int .i64 0) := let ⟨f, h1, h2⟩ := h.blk; (h1.cell 73).trans ((mArr_get f (by decide)).trans (congrArg some h2.c73))
theorem MZ.k74 (h : MZ w C z g p K q c) : w.cell? ⟨g, 74, none⟩ = some (.int .i64 q.depth) := let ⟨f, h1, h2⟩ := h.blk; (h1.cell 74).trans ((mArr_get f (by decide)).trans (congrArg some h2.c74))
theorem MZ.kr (h : MZ w C z g p K q c) (k : Nat) (hk : k < 16) : w.cell? ⟨g, 45 + k, none⟩ = some (.int .i64 (q.regs (k : Int))) := let ⟨f, h1, h2⟩ := h.blk; (h1.cell (45 + k)).trans ((mArr_get f (by omega)).trans (congrArg some (h2.rg k hk)))
theorem MZ.kd (h : MZ w C z g p K q c) (k : Nat) (hk : k < 39) : w.cell? ⟨g, 6 + k, none⟩ = doesV[k]? := let ⟨f, h1, h2⟩ := h.blk; (h1.cell (6 + k)).trans ((mArr_get f (by omega)).trans (h2.ds k hk))
theorem MZ.only (h : MZ w C z g p K q c) (k : Nat) (u : Value) : Only C w (w.setCell ⟨g, k, none⟩ u) := (Only.refl C w).setCell (.inl h.cg) u
theorem MZ.box (h : MZ w C z g p K q c) (o : Obj) : MZ (w.alloc o) C z g p K q c := h.keep ((Only.refl (fun _ => False) w).alloc o) fun _ _ _ h => h
theorem MZ.box_only (h : MZ w C z g p K q c) (o : Obj) (k : Nat) (u : Value) : Only C w ((w.alloc o).setCell ⟨g, k, none⟩ u) := ((Only.refl C w).alloc o).setCell (.inl h.cg) u
end
def MQ.reg (q : MQ) (a : Nat) (v : Int) : MQ := { q with regs := fun j => if j = (a : Int) then v else q.regs j }
theorem MZ.sreg {w : World} {C : Nat → Prop} {z : Nat → Nat} {g : Nat} {p : MP} {K : MK} {q : MQ} {c : Nat} (h : MZ w C z g p K q c) (a : Nat) (ha : a < 16) (v : Int) : MZ (w.setCell ⟨g, 45 + a, none⟩ (.int .i64 v)) C z g p K (q.reg a v) c :=
  h.put (45 + a) _ (q.reg a v) (fun f hf => hf.sReg a ha v) rfl rfl rfl rfl rfl
def Did (w : World) (C : Nat → Prop) (g : Nat) (K : MK) (q' : MQ) (c : Nat) (e : Ending) (w' : World) : Prop := e = .returned (.tuple #[]) ∧ MAt w' C g K q' c ∧ Only C w w'
def endV (a b v : Int) : Value := .iface 90 (.agg #[.int .i64 a, .int .i64 b, .int .i64 v])
def Stops (w : World) (C : Nat → Prop) (g : Nat) (K : MK) (q' : MQ) (c : Nat) (a b v : Int) (e : Ending) (w' : World) : Prop := e = .panicked [{ v := endV a b v, recovered := false }] ∧ MAt w' C g K q' c ∧ Only C w w'
def insR (op : Int) (a b c : Nat) (n : Int) : Value := .agg #[.int .i64 op, .int .i64 a, .int .i64 b, .int .i64 c, .int .i64 n]
/-- The instruction that was handed over is laid into a block of its own. -/
theorem MZ.boxed {w : World} {C : Nat → Prop} {z : Nat → Nat} {g : Nat} {p : MP} {K : MK} {q : MQ} {c : Nat} (h : MZ w C z g p K q c) (op : Int) (a b d : Nat) (n : Int) :
    ∃ w1 s, w1 = w.alloc (.cells #[.int .i64 op, .int .i64 a, .int .i64 b, .int .i64 d, .int .i64 n] 54) ∧ s = w.heap.size ∧ MZ w1 C z g p K q c ∧ Only C w w1 ∧ w1.cell? ⟨s, 0, none⟩ = some (.int .i64 op) ∧ w1.cell? ⟨s, 1, none⟩ = some (.int .i64 a) ∧ w1.cell? ⟨s, 2, none⟩ = some (.int .i64 b) ∧
      w1.cell? ⟨s, 3, none⟩ = some (.int .i64 d) ∧ w1.cell? ⟨s, 4, none⟩ = some (.int .i64 n) := by
  have b := Blk.new w 54 #[.int .i64 op, .int .i64 a, .int .i64 b, .int .i64 d, .int .i64 n]
  exact ⟨_, _, rfl, rfl, h.box _, (Only.refl C w).alloc _, b.cell 0, b.cell 1, b.cell 2, b.cell 3, b.cell 4⟩
theorem Only.cells {F : Nat → Prop} {a w : World} (h : Only F a w) {p : Addr} (hp : F p.block) (u : Value) : Only F a (w.setCell p u) := h.setCell (.inl hp) u
theorem MZ.drew {w : World} {C : Nat → Prop} {z : Nat → Nat} {g : Nat} {p : MP} {K : MK} {q : MQ} {c : Nat} (h : MZ w C z g p K q c) : MZ w.drew C z g p K q c := h.keep ((Only.refl (fun _ => False) w).drew) fun _ _ _ h => h
theorem MZ.drewN {w : World} {C : Nat → Prop} {z : Nat → Nat} {g : Nat} {p : MP} {K : MK} {q : MQ} {c : Nat} (h : MZ w C z g p K q c) (n : Nat) : MZ (w.drewN n) C z g p K q c := h.keep ((Only.refl (fun _ => False) w).drewN n) fun _ _ _ h => h
end Go.Proofs.Ytkjfbojmkkdgoaa
