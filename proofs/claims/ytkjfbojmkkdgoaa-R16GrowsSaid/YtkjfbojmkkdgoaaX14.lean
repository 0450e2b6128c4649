/- r16's machine: every method, as what the plain machine does. -/
import Derived.Test.YtkjfbojmkkdgoaaX13
set_option linter.unusedVariables false
set_option linter.unusedSimpArgs false
namespace Go.Proofs.Ytkjfbojmkkdgoaa
open Go.RowKit
/-- What stands as an instruction is carried out. -/
structure Mid (K : MK) (q : MQ) (f : Int) : Prop where
  half : Half K q
  at_ : i64in q.at_
  fr0 : 0 ≤ q.fr
  top : q.fr + q.sz ≤ K.sl
  sz : q.sz = (K.Fs f.toNat).frame
  sz2 : 2 ≤ q.sz
  cll : q.cl.length < 4398046511104
  cl : (∃ y, q.cl = [y]) ∨ ∃ ys x y, q.cl = (ys ++ [x]) ++ [y] ∧ 0 ≤ x ∧ x < (K.nf : Int)
theorem mid_of {K : MK} (s : Sound K) {q : MQ} (g : Good K q) (hf : q.fin = 0) : Mid K q.tick (q.cl.getLastD 0) ∧ InsGood K (q.cl.getLastD 0) (K.X q.at_.toNat) ∧ i64in (K.X q.at_.toNat).n ∧ 0 ≤ q.at_ ∧ q.at_ < (K.ni : Int) := by
  have R := g.run hf
  have fn := R.fn
  have ig := (s.ins fn R.in_).1
  have rg := s.range fn R.in_
  have H : Half K q.tick := ⟨g.regs, g.st, g.inp, g.hv, g.hok, g.htk, g.ev, g.evn⟩
  have xn := s.xn q.at_.toNat (by omega)
  obtain ⟨f, l, hcl, hlast⟩ := R.cl
  have hch := R.chain
  rw [hcl] at hch
  have hsz := R.sz
  rw [hlast] at hsz fn ig
  have htop := hch.top
  have hdeep := Chain.deep s hch
  have hfr2 := s.frame2 fn
  have s1 := s.s1
  have hlen : q.cl.length = (f :: l).length := by rw [← hcl, List.length_reverse]
  have nis := s.nis
  rw [hlast]
  refine ⟨⟨H, ?_, hdeep.1, ?_, hsz, ?_, ?_, ?_⟩, ig, xn, rg⟩
  · show i64in (q.at_ + 1)
    unfold i64in; omega
  · show q.fr + q.sz ≤ K.sl
    omega
  · show 2 ≤ q.sz
    omega
  · show q.cl.length < _
    omega
  · show (∃ y, q.cl = [y]) ∨ ∃ ys x y, q.cl = (ys ++ [x]) ++ [y] ∧ 0 ≤ x ∧ x < (K.nf : Int)
    have hq : q.cl = l.reverse ++ [f] := by rw [← List.reverse_reverse q.cl, hcl, List.reverse_cons]
    cases l with
    | nil => exact .inl ⟨f, by rw [hq]; rfl⟩
    | cons k l =>
      have := hch.2.2.2.2.head
      exact .inr ⟨l.reverse, k, f, by rw [hq, List.reverse_cons], this.1, this.2⟩
def Acts (w : World) (C : Nat → Prop) (g : Nat) (K : MK) (q : MQ) (i : Ins) (c : Nat) (e : Ending) (w' : World) : Prop :=
  (e = .returned (.tuple #[]) ∧ MAt w' C g K (act K q i) c ∧ Only C w w') ∨ ∃ a b v q2, e = .panicked [{ v := endV a b v, recovered := false }] ∧ MAt w' C g K q2 c ∧ Only C w w' ∧ act K q i = q2.fins a b v
section
variable {w : World} {C : Nat → Prop} {g : Nat} {K : MK} {q q2 : MQ} {c c2 : Nat} {i : Ins} {e : Ending} {w' : World} {a b v : Int}
theorem Did.acts (hd : Did w C g K q2 c e w') (hq : act K q i = q2) (hc : c ≤ c2) : Acts w C g K q i c2 e w' := .inl ⟨hd.1, hq ▸ hd.2.1.mono hc, hd.2.2⟩
theorem Stops.acts (hd : Stops w C g K q2 c a b v e w') (hq : act K q i = q2.fins a b v) (hc : c ≤ c2) : Acts w C g K q i c2 e w' := .inr ⟨a, b, v, q2, hd.1, hd.2.1.mono hc, hd.2.2, hq⟩
end
/-- One method, whichever. -/
def Method (K : MK) (q : MQ) (op : Int) (a b d : Nat) (n : Int) : Prop := ∃ N : Nat, doesV[op.toNat]? = some (.func (Fn.func N) #[] #[]) ∧ (∀ args w, (callFunc N args).run Try.prog w = .ok (.enter N args) w) ∧
  ∀ w C g c, MAt w C g K q c → (∀ b, w.heap.size ≤ b → C b) → c + 2 < 9000000000000 → Calls Try.prog N #[.pointer (some ⟨g, 0, none⟩), insR op a b d n] w (Acts w C g K q ⟨op, a, b, d, n⟩ (c + 2))
theorem has_iff {q : QH} {a : Int} (h1 : q.lenB a = true) (h2 : ¬ a = 0) (i : Int) : q.has a i = true ↔ 0 ≤ i ∧ i < q.lenA a := by
  unfold QH.lenB at h1
  rw [if_neg h2] at h1
  unfold QH.lenA QH.has
  rw [if_neg h2]
  cases hs : q.sz a with
  | none => rw [hs] at h1; cases h1
  | some n => simp
theorem method_1 {K : MK} (s : Sound K) {q : MQ} {f : Int} (m : Mid K q f) (a b d : Nat) (n : Int) (ig : InsGood K f ⟨1, a, b, d, n⟩) (xn : i64in n) : Method K q 1 a b d n := by
  have ha : a < 16 := by have := ig.a1; dsimp only at this; omega
  have hb : b < 16 := by have := ig.b1; dsimp only at this; omega
  have hd : d < 16 := by have := ig.c1; dsimp only at this; omega
  have nm := ig.num
  unfold numberOk at nm
  dsimp only at nm
  refine ⟨52, rfl, fun _ _ => by kernel_rfl, fun w C g c h hC hc => ?_⟩
  have hrs := m.half.regs
  exact (show _ from mldi_c w C g K q c h 1 a b d n ha).mono fun e w' hd => Did.acts hd (by simp [act]) (by omega)
theorem method_2 {K : MK} (s : Sound K) {q : MQ} {f : Int} (m : Mid K q f) (a b d : Nat) (n : Int) (ig : InsGood K f ⟨2, a, b, d, n⟩) (xn : i64in n) : Method K q 2 a b d n := by
  have ha : a < 16 := by have := ig.a1; dsimp only at this; omega
  have hb : b < 16 := by have := ig.b1; dsimp only at this; omega
  have hd : d < 16 := by have := ig.c1; dsimp only at this; omega
  have nm := ig.num
  unfold numberOk at nm
  dsimp only at nm
  refine ⟨53, rfl, fun _ _ => by kernel_rfl, fun w C g c h hC hc => ?_⟩
  have hrs := m.half.regs
  exact (show _ from mmov_c w C g K q c h 2 a b d n ha hb).mono fun e w' hd => Did.acts hd (by simp [act]) (by omega)
theorem method_3 {K : MK} (s : Sound K) {q : MQ} {f : Int} (m : Mid K q f) (a b d : Nat) (n : Int) (ig : InsGood K f ⟨3, a, b, d, n⟩) (xn : i64in n) : Method K q 3 a b d n := by
  have ha : a < 16 := by have := ig.a1; dsimp only at this; omega
  have hb : b < 16 := by have := ig.b1; dsimp only at this; omega
  have hd : d < 16 := by have := ig.c1; dsimp only at this; omega
  have nm := ig.num
  unfold numberOk at nm
  dsimp only at nm
  refine ⟨51, rfl, fun _ _ => by kernel_rfl, fun w C g c h hC hc => ?_⟩
  have hrs := m.half.regs
  exact (show _ from msum_c w C g K q c h 3 a b d n (by decide) (by decide) ha hb hd).mono fun e w' hd => Did.acts hd (by simp [act]) (by omega)
theorem method_4 {K : MK} (s : Sound K) {q : MQ} {f : Int} (m : Mid K q f) (a b d : Nat) (n : Int) (ig : InsGood K f ⟨4, a, b, d, n⟩) (xn : i64in n) : Method K q 4 a b d n := by
  have ha : a < 16 := by have := ig.a1; dsimp only at this; omega
  have hb : b < 16 := by have := ig.b1; dsimp only at this; omega
  have hd : d < 16 := by have := ig.c1; dsimp only at this; omega
  have nm := ig.num
  unfold numberOk at nm
  dsimp only at nm
  refine ⟨51, rfl, fun _ _ => by kernel_rfl, fun w C g c h hC hc => ?_⟩
  have hrs := m.half.regs
  exact (show _ from msum_c w C g K q c h 4 a b d n (by decide) (by decide) ha hb hd).mono fun e w' hd => Did.acts hd (by simp [act]) (by omega)
theorem method_5 {K : MK} (s : Sound K) {q : MQ} {f : Int} (m : Mid K q f) (a b d : Nat) (n : Int) (ig : InsGood K f ⟨5, a, b, d, n⟩) (xn : i64in n) : Method K q 5 a b d n := by
  have ha : a < 16 := by have := ig.a1; dsimp only at this; omega
  have hb : b < 16 := by have := ig.b1; dsimp only at this; omega
  have hd : d < 16 := by have := ig.c1; dsimp only at this; omega
  have nm := ig.num
  unfold numberOk at nm
  dsimp only at nm
  refine ⟨51, rfl, fun _ _ => by kernel_rfl, fun w C g c h hC hc => ?_⟩
  have hrs := m.half.regs
  exact (show _ from msum_c w C g K q c h 5 a b d n (by decide) (by decide) ha hb hd).mono fun e w' hd => Did.acts hd (by simp [act]) (by omega)
theorem method_8 {K : MK} (s : Sound K) {q : MQ} {f : Int} (m : Mid K q f) (a b d : Nat) (n : Int) (ig : InsGood K f ⟨8, a, b, d, n⟩) (xn : i64in n) : Method K q 8 a b d n := by
  have ha : a < 16 := by have := ig.a1; dsimp only at this; omega
  have hb : b < 16 := by have := ig.b1; dsimp only at this; omega
  have hd : d < 16 := by have := ig.c1; dsimp only at this; omega
  have nm := ig.num
  unfold numberOk at nm
  dsimp only at nm
  refine ⟨51, rfl, fun _ _ => by kernel_rfl, fun w C g c h hC hc => ?_⟩
  have hrs := m.half.regs
  exact (show _ from msum_c w C g K q c h 8 a b d n (by decide) (by decide) ha hb hd).mono fun e w' hd => Did.acts hd (by simp [act]) (by omega)
theorem method_9 {K : MK} (s : Sound K) {q : MQ} {f : Int} (m : Mid K q f) (a b d : Nat) (n : Int) (ig : InsGood K f ⟨9, a, b, d, n⟩) (xn : i64in n) : Method K q 9 a b d n := by
  have ha : a < 16 := by have := ig.a1; dsimp only at this; omega
  have hb : b < 16 := by have := ig.b1; dsimp only at this; omega
  have hd : d < 16 := by have := ig.c1; dsimp only at this; omega
  have nm := ig.num
  unfold numberOk at nm
  dsimp only at nm
  refine ⟨51, rfl, fun _ _ => by kernel_rfl, fun w C g c h hC hc => ?_⟩
  have hrs := m.half.regs
  exact (show _ from msum_c w C g K q c h 9 a b d n (by decide) (by decide) ha hb hd).mono fun e w' hd => Did.acts hd (by simp [act]) (by omega)
theorem method_10 {K : MK} (s : Sound K) {q : MQ} {f : Int} (m : Mid K q f) (a b d : Nat) (n : Int) (ig : InsGood K f ⟨10, a, b, d, n⟩) (xn : i64in n) : Method K q 10 a b d n := by
  have ha : a < 16 := by have := ig.a1; dsimp only at this; omega
  have hb : b < 16 := by have := ig.b1; dsimp only at this; omega
  have hd : d < 16 := by have := ig.c1; dsimp only at this; omega
  have nm := ig.num
  unfold numberOk at nm
  dsimp only at nm
  refine ⟨51, rfl, fun _ _ => by kernel_rfl, fun w C g c h hC hc => ?_⟩
  have hrs := m.half.regs
  exact (show _ from msum_c w C g K q c h 10 a b d n (by decide) (by decide) ha hb hd).mono fun e w' hd => Did.acts hd (by simp [act]) (by omega)
theorem method_11 {K : MK} (s : Sound K) {q : MQ} {f : Int} (m : Mid K q f) (a b d : Nat) (n : Int) (ig : InsGood K f ⟨11, a, b, d, n⟩) (xn : i64in n) : Method K q 11 a b d n := by
  have ha : a < 16 := by have := ig.a1; dsimp only at this; omega
  have hb : b < 16 := by have := ig.b1; dsimp only at this; omega
  have hd : d < 16 := by have := ig.c1; dsimp only at this; omega
  have nm := ig.num
  unfold numberOk at nm
  dsimp only at nm
  refine ⟨51, rfl, fun _ _ => by kernel_rfl, fun w C g c h hC hc => ?_⟩
  have hrs := m.half.regs
  exact (show _ from msum_c w C g K q c h 11 a b d n (by decide) (by decide) ha hb hd).mono fun e w' hd => Did.acts hd (by simp [act]) (by omega)
theorem method_14 {K : MK} (s : Sound K) {q : MQ} {f : Int} (m : Mid K q f) (a b d : Nat) (n : Int) (ig : InsGood K f ⟨14, a, b, d, n⟩) (xn : i64in n) : Method K q 14 a b d n := by
  have ha : a < 16 := by have := ig.a1; dsimp only at this; omega
  have hb : b < 16 := by have := ig.b1; dsimp only at this; omega
  have hd : d < 16 := by have := ig.c1; dsimp only at this; omega
  have nm := ig.num
  unfold numberOk at nm
  dsimp only at nm
  refine ⟨51, rfl, fun _ _ => by kernel_rfl, fun w C g c h hC hc => ?_⟩
  have hrs := m.half.regs
  exact (show _ from msum_c w C g K q c h 14 a b d n (by decide) (by decide) ha hb hd).mono fun e w' hd => Did.acts hd (by simp [act]) (by omega)
theorem method_15 {K : MK} (s : Sound K) {q : MQ} {f : Int} (m : Mid K q f) (a b d : Nat) (n : Int) (ig : InsGood K f ⟨15, a, b, d, n⟩) (xn : i64in n) : Method K q 15 a b d n := by
  have ha : a < 16 := by have := ig.a1; dsimp only at this; omega
  have hb : b < 16 := by have := ig.b1; dsimp only at this; omega
  have hd : d < 16 := by have := ig.c1; dsimp only at this; omega
  have nm := ig.num
  unfold numberOk at nm
  dsimp only at nm
  refine ⟨51, rfl, fun _ _ => by kernel_rfl, fun w C g c h hC hc => ?_⟩
  have hrs := m.half.regs
  exact (show _ from msum_c w C g K q c h 15 a b d n (by decide) (by decide) ha hb hd).mono fun e w' hd => Did.acts hd (by simp [act]) (by omega)
theorem method_16 {K : MK} (s : Sound K) {q : MQ} {f : Int} (m : Mid K q f) (a b d : Nat) (n : Int) (ig : InsGood K f ⟨16, a, b, d, n⟩) (xn : i64in n) : Method K q 16 a b d n := by
  have ha : a < 16 := by have := ig.a1; dsimp only at this; omega
  have hb : b < 16 := by have := ig.b1; dsimp only at this; omega
  have hd : d < 16 := by have := ig.c1; dsimp only at this; omega
  have nm := ig.num
  unfold numberOk at nm
  dsimp only at nm
  refine ⟨51, rfl, fun _ _ => by kernel_rfl, fun w C g c h hC hc => ?_⟩
  have hrs := m.half.regs
  exact (show _ from msum_c w C g K q c h 16 a b d n (by decide) (by decide) ha hb hd).mono fun e w' hd => Did.acts hd (by simp [act]) (by omega)
theorem method_17 {K : MK} (s : Sound K) {q : MQ} {f : Int} (m : Mid K q f) (a b d : Nat) (n : Int) (ig : InsGood K f ⟨17, a, b, d, n⟩) (xn : i64in n) : Method K q 17 a b d n := by
  have ha : a < 16 := by have := ig.a1; dsimp only at this; omega
  have hb : b < 16 := by have := ig.b1; dsimp only at this; omega
  have hd : d < 16 := by have := ig.c1; dsimp only at this; omega
  have nm := ig.num
  unfold numberOk at nm
  dsimp only at nm
  refine ⟨51, rfl, fun _ _ => by kernel_rfl, fun w C g c h hC hc => ?_⟩
  have hrs := m.half.regs
  exact (show _ from msum_c w C g K q c h 17 a b d n (by decide) (by decide) ha hb hd).mono fun e w' hd => Did.acts hd (by simp [act]) (by omega)
theorem method_6 {K : MK} (s : Sound K) {q : MQ} {f : Int} (m : Mid K q f) (a b d : Nat) (n : Int) (ig : InsGood K f ⟨6, a, b, d, n⟩) (xn : i64in n) : Method K q 6 a b d n := by
  have ha : a < 16 := by have := ig.a1; dsimp only at this; omega
  have hb : b < 16 := by have := ig.b1; dsimp only at this; omega
  have hd : d < 16 := by have := ig.c1; dsimp only at this; omega
  have nm := ig.num
  unfold numberOk at nm
  dsimp only at nm
  refine ⟨54, rfl, fun _ _ => by kernel_rfl, fun w C g c h hC hc => ?_⟩
  have hrs := m.half.regs
  by_cases ht : q.regs d = 0
  · exact (show _ from mdivide_no w C g K q c h 6 a b d n hd ht).mono fun e w' hd => Stops.acts hd (by simp [act, ht]) (by omega)
  · exact (show _ from mdivide_ok w C g K q c h 6 a b d n (by decide) (by decide) ha hb hd ht).mono fun e w' hd => Did.acts hd (by simp [act, ht]) (by omega)
theorem method_7 {K : MK} (s : Sound K) {q : MQ} {f : Int} (m : Mid K q f) (a b d : Nat) (n : Int) (ig : InsGood K f ⟨7, a, b, d, n⟩) (xn : i64in n) : Method K q 7 a b d n := by
  have ha : a < 16 := by have := ig.a1; dsimp only at this; omega
  have hb : b < 16 := by have := ig.b1; dsimp only at this; omega
  have hd : d < 16 := by have := ig.c1; dsimp only at this; omega
  have nm := ig.num
  unfold numberOk at nm
  dsimp only at nm
  refine ⟨54, rfl, fun _ _ => by kernel_rfl, fun w C g c h hC hc => ?_⟩
  have hrs := m.half.regs
  by_cases ht : q.regs d = 0
  · exact (show _ from mdivide_no w C g K q c h 7 a b d n hd ht).mono fun e w' hd => Stops.acts hd (by simp [act, ht]) (by omega)
  · exact (show _ from mdivide_ok w C g K q c h 7 a b d n (by decide) (by decide) ha hb hd ht).mono fun e w' hd => Did.acts hd (by simp [act, ht]) (by omega)
theorem method_12 {K : MK} (s : Sound K) {q : MQ} {f : Int} (m : Mid K q f) (a b d : Nat) (n : Int) (ig : InsGood K f ⟨12, a, b, d, n⟩) (xn : i64in n) : Method K q 12 a b d n := by
  have ha : a < 16 := by have := ig.a1; dsimp only at this; omega
  have hb : b < 16 := by have := ig.b1; dsimp only at this; omega
  have hd : d < 16 := by have := ig.c1; dsimp only at this; omega
  have nm := ig.num
  unfold numberOk at nm
  dsimp only at nm
  refine ⟨55, rfl, fun _ _ => by kernel_rfl, fun w C g c h hC hc => ?_⟩
  have hrs := m.half.regs
  by_cases ht : q.regs d < 0
  · exact (show _ from mshift_no w C g K q c h 12 a b d n hd ht).mono fun e w' hd => Stops.acts hd (by simp [act, ht]) (by omega)
  · exact (show _ from mshift_ok w C g K q c h 12 a b d n (by decide) (by decide) ha hb hd ht).mono fun e w' hd => Did.acts hd (by simp [act, ht]) (by omega)
theorem method_13 {K : MK} (s : Sound K) {q : MQ} {f : Int} (m : Mid K q f) (a b d : Nat) (n : Int) (ig : InsGood K f ⟨13, a, b, d, n⟩) (xn : i64in n) : Method K q 13 a b d n := by
  have ha : a < 16 := by have := ig.a1; dsimp only at this; omega
  have hb : b < 16 := by have := ig.b1; dsimp only at this; omega
  have hd : d < 16 := by have := ig.c1; dsimp only at this; omega
  have nm := ig.num
  unfold numberOk at nm
  dsimp only at nm
  refine ⟨55, rfl, fun _ _ => by kernel_rfl, fun w C g c h hC hc => ?_⟩
  have hrs := m.half.regs
  by_cases ht : q.regs d < 0
  · exact (show _ from mshift_no w C g K q c h 13 a b d n hd ht).mono fun e w' hd => Stops.acts hd (by simp [act, ht]) (by omega)
  · exact (show _ from mshift_ok w C g K q c h 13 a b d n (by decide) (by decide) ha hb hd ht).mono fun e w' hd => Did.acts hd (by simp [act, ht]) (by omega)
theorem method_18 {K : MK} (s : Sound K) {q : MQ} {f : Int} (m : Mid K q f) (a b d : Nat) (n : Int) (ig : InsGood K f ⟨18, a, b, d, n⟩) (xn : i64in n) : Method K q 18 a b d n := by
  have ha : a < 16 := by have := ig.a1; dsimp only at this; omega
  have hb : b < 16 := by have := ig.b1; dsimp only at this; omega
  have hd : d < 16 := by have := ig.c1; dsimp only at this; omega
  have nm := ig.num
  unfold numberOk at nm
  dsimp only at nm
  refine ⟨56, rfl, fun _ _ => by kernel_rfl, fun w C g c h hC hc => ?_⟩
  have hrs := m.half.regs
  exact (show _ from msingle_c w C g K q c h 18 a b d n (by decide) (by decide) ha hb).mono fun e w' hd => Did.acts hd (by simp [act]) (by omega)
theorem method_19 {K : MK} (s : Sound K) {q : MQ} {f : Int} (m : Mid K q f) (a b d : Nat) (n : Int) (ig : InsGood K f ⟨19, a, b, d, n⟩) (xn : i64in n) : Method K q 19 a b d n := by
  have ha : a < 16 := by have := ig.a1; dsimp only at this; omega
  have hb : b < 16 := by have := ig.b1; dsimp only at this; omega
  have hd : d < 16 := by have := ig.c1; dsimp only at this; omega
  have nm := ig.num
  unfold numberOk at nm
  dsimp only at nm
  refine ⟨56, rfl, fun _ _ => by kernel_rfl, fun w C g c h hC hc => ?_⟩
  have hrs := m.half.regs
  exact (show _ from msingle_c w C g K q c h 19 a b d n (by decide) (by decide) ha hb).mono fun e w' hd => Did.acts hd (by simp [act]) (by omega)
theorem method_20 {K : MK} (s : Sound K) {q : MQ} {f : Int} (m : Mid K q f) (a b d : Nat) (n : Int) (ig : InsGood K f ⟨20, a, b, d, n⟩) (xn : i64in n) : Method K q 20 a b d n := by
  have ha : a < 16 := by have := ig.a1; dsimp only at this; omega
  have hb : b < 16 := by have := ig.b1; dsimp only at this; omega
  have hd : d < 16 := by have := ig.c1; dsimp only at this; omega
  have nm := ig.num
  unfold numberOk at nm
  dsimp only at nm
  refine ⟨57, rfl, fun _ _ => by kernel_rfl, fun w C g c h hC hc => ?_⟩
  have hrs := m.half.regs
  by_cases ht : q.regs b = 0 ∨ q.regs b = 1
  · exact (show _ from mnot_ok w C g K q c h 20 a b d n ha hb ht).mono fun e w' hd => Did.acts hd (by simp [act, ht]) (by omega)
  · exact (show _ from mnot_no w C g K q c h 20 a b d n ha hb (hrs _) ht).mono fun e w' hd => Stops.acts hd (by simp [act, ht]) (by omega)
theorem method_21 {K : MK} (s : Sound K) {q : MQ} {f : Int} (m : Mid K q f) (a b d : Nat) (n : Int) (ig : InsGood K f ⟨21, a, b, d, n⟩) (xn : i64in n) : Method K q 21 a b d n := by
  have ha : a < 16 := by have := ig.a1; dsimp only at this; omega
  have hb : b < 16 := by have := ig.b1; dsimp only at this; omega
  have hd : d < 16 := by have := ig.c1; dsimp only at this; omega
  have nm := ig.num
  unfold numberOk at nm
  dsimp only at nm
  refine ⟨58, rfl, fun _ _ => by kernel_rfl, fun w C g c h hC hc => ?_⟩
  have hrs := m.half.regs
  exact (show _ from mjmp_c w C g K q c h 21 a b d n).mono fun e w' hd => Did.acts hd (by simp [act]) (by omega)
theorem method_22 {K : MK} (s : Sound K) {q : MQ} {f : Int} (m : Mid K q f) (a b d : Nat) (n : Int) (ig : InsGood K f ⟨22, a, b, d, n⟩) (xn : i64in n) : Method K q 22 a b d n := by
  have ha : a < 16 := by have := ig.a1; dsimp only at this; omega
  have hb : b < 16 := by have := ig.b1; dsimp only at this; omega
  have hd : d < 16 := by have := ig.c1; dsimp only at this; omega
  have nm := ig.num
  unfold numberOk at nm
  dsimp only at nm
  refine ⟨59, rfl, fun _ _ => by kernel_rfl, fun w C g c h hC hc => ?_⟩
  have hrs := m.half.regs
  by_cases ht : q.regs a = 0
  · exact (show _ from mbz_c w C g K q c h 22 a b d n ha).mono fun e w' hd => Did.acts hd (by simp [act, ht]) (by omega)
  · exact (show _ from mbz_c w C g K q c h 22 a b d n ha).mono fun e w' hd => Did.acts hd (by simp [act, ht]) (by omega)
theorem method_23 {K : MK} (s : Sound K) {q : MQ} {f : Int} (m : Mid K q f) (a b d : Nat) (n : Int) (ig : InsGood K f ⟨23, a, b, d, n⟩) (xn : i64in n) : Method K q 23 a b d n := by
  have ha : a < 16 := by have := ig.a1; dsimp only at this; omega
  have hb : b < 16 := by have := ig.b1; dsimp only at this; omega
  have hd : d < 16 := by have := ig.c1; dsimp only at this; omega
  have nm := ig.num
  unfold numberOk at nm
  dsimp only at nm
  refine ⟨60, rfl, fun _ _ => by kernel_rfl, fun w C g c h hC hc => ?_⟩
  have hrs := m.half.regs
  by_cases ht : q.regs a = 0
  · exact (show _ from mbnz_c w C g K q c h 23 a b d n ha).mono fun e w' hd => Did.acts hd (by simp [act, ht]) (by omega)
  · exact (show _ from mbnz_c w C g K q c h 23 a b d n ha).mono fun e w' hd => Did.acts hd (by simp [act, ht]) (by omega)
theorem method_24 {K : MK} (s : Sound K) {q : MQ} {f : Int} (m : Mid K q f) (a b d : Nat) (n : Int) (ig : InsGood K f ⟨24, a, b, d, n⟩) (xn : i64in n) : Method K q 24 a b d n := by
  have ha : a < 16 := by have := ig.a1; dsimp only at this; omega
  have hb : b < 16 := by have := ig.b1; dsimp only at this; omega
  have hd : d < 16 := by have := ig.c1; dsimp only at this; omega
  have nm := ig.num
  unfold numberOk at nm
  dsimp only at nm
  refine ⟨61, rfl, fun _ _ => by kernel_rfl, fun w C g c h hC hc => ?_⟩
  have hrs := m.half.regs
  have fr0 := m.fr0
  have top := m.top
  have sz := m.sz
  have sz2 := m.sz2
  have s0 := s.s0
  have s1 := s.s1
  simp at nm
  exact (show _ from mlds_c w C g K q c h 24 a b d n ha fr0 (by omega) (by omega)).mono fun e w' hd => Did.acts hd (by simp [act]) (by omega)
theorem method_25 {K : MK} (s : Sound K) {q : MQ} {f : Int} (m : Mid K q f) (a b d : Nat) (n : Int) (ig : InsGood K f ⟨25, a, b, d, n⟩) (xn : i64in n) : Method K q 25 a b d n := by
  have ha : a < 16 := by have := ig.a1; dsimp only at this; omega
  have hb : b < 16 := by have := ig.b1; dsimp only at this; omega
  have hd : d < 16 := by have := ig.c1; dsimp only at this; omega
  have nm := ig.num
  unfold numberOk at nm
  dsimp only at nm
  refine ⟨62, rfl, fun _ _ => by kernel_rfl, fun w C g c h hC hc => ?_⟩
  have hrs := m.half.regs
  have fr0 := m.fr0
  have top := m.top
  have sz := m.sz
  have sz2 := m.sz2
  have s0 := s.s0
  have s1 := s.s1
  simp at nm
  exact (show _ from msts_c w C g K q c h 25 a b d n hC (by omega) ha (hrs _) fr0 (by omega) (by omega)).mono fun e w' hd => Did.acts hd (by simp [act]) (by omega)
theorem method_26 {K : MK} (s : Sound K) {q : MQ} {f : Int} (m : Mid K q f) (a b d : Nat) (n : Int) (ig : InsGood K f ⟨26, a, b, d, n⟩) (xn : i64in n) : Method K q 26 a b d n := by
  have ha : a < 16 := by have := ig.a1; dsimp only at this; omega
  have hb : b < 16 := by have := ig.b1; dsimp only at this; omega
  have hd : d < 16 := by have := ig.c1; dsimp only at this; omega
  have nm := ig.num
  unfold numberOk at nm
  dsimp only at nm
  refine ⟨63, rfl, fun _ _ => by kernel_rfl, fun w C g c h hC hc => ?_⟩
  have hrs := m.half.regs
  have fr0 := m.fr0
  have top := m.top
  have sz := m.sz
  have sz2 := m.sz2
  have s0 := s.s0
  have s1 := s.s1
  simp at nm
  by_cases ht : K.sl - (q.fr + q.sz) < (K.Fs n.toNat).frame
  · exact (show _ from mcall_no w C g K q c h 26 a b d n fr0 (by omega) (by omega) s0 s1 nm.1 nm.2 ht).mono fun e w' hd => Stops.acts hd (by simp [act, ht]) (by omega)
  · exact (show _ from mcall_ok w C g K q c h 26 a b d n hC (by omega) m.cll m.at_ fr0 (by omega) (by omega) s0 s1 nm.1 nm.2 ht).mono fun e w' hd => Did.acts hd (by simp [act, ht]) (by omega)
theorem method_27 {K : MK} (s : Sound K) {q : MQ} {f : Int} (m : Mid K q f) (a b d : Nat) (n : Int) (ig : InsGood K f ⟨27, a, b, d, n⟩) (xn : i64in n) : Method K q 27 a b d n := by
  have ha : a < 16 := by have := ig.a1; dsimp only at this; omega
  have hb : b < 16 := by have := ig.b1; dsimp only at this; omega
  have hd : d < 16 := by have := ig.c1; dsimp only at this; omega
  have nm := ig.num
  unfold numberOk at nm
  dsimp only at nm
  refine ⟨64, rfl, fun _ _ => by kernel_rfl, fun w C g c h hC hc => ?_⟩
  have hrs := m.half.regs
  have fr0 := m.fr0
  have top := m.top
  have sz := m.sz
  have sz2 := m.sz2
  have s0 := s.s0
  have s1 := s.s1
  rcases m.cl with ⟨y, hcl⟩ | ⟨ys, x, y, hcl, hx0, hx1⟩
  · exact (show _ from mret_last w C g K q c h 27 a b d n hC y hcl).mono fun e w' hd => Stops.acts hd (by simp [act, hcl]) (by omega)
  · exact (show _ from mret_more w C g K q c h 27 a b d n hC ys y x hcl hx0 hx1 fr0 (by omega)).mono fun e w' hd => Did.acts hd (by simp [act, hcl]) (by omega)
theorem method_28 {K : MK} (s : Sound K) {q : MQ} {f : Int} (m : Mid K q f) (a b d : Nat) (n : Int) (ig : InsGood K f ⟨28, a, b, d, n⟩) (xn : i64in n) : Method K q 28 a b d n := by
  have ha : a < 16 := by have := ig.a1; dsimp only at this; omega
  have hb : b < 16 := by have := ig.b1; dsimp only at this; omega
  have hd : d < 16 := by have := ig.c1; dsimp only at this; omega
  have nm := ig.num
  unfold numberOk at nm
  dsimp only at nm
  refine ⟨65, rfl, fun _ _ => by kernel_rfl, fun w C g c h hC hc => ?_⟩
  have hrs := m.half.regs
  have h0 := m.half.hok.1
  have h1 := m.half.htk
  have h2 := s.h1
  by_cases ht : q.regs b < 0
  · exact (show _ from malloc_neg w C g K q c h 28 a b d n hb ht).mono fun e w' hd => Stops.acts hd (by simp [act, ht]) (by omega)
  by_cases ht2 : K.hl - q.hp.tk ≤ q.regs b
  · exact (show _ from malloc_full w C g K q c h 28 a b d n hb h0 h1 h2 ht ht2).mono fun e w' hd => Stops.acts hd (by simp [act, ht, ht2]) (by omega)
  · exact (show _ from malloc_ok w C g K q c h 28 a b d n ha hb (by omega) h0 h1 h2 ht ht2).mono fun e w' hd => Did.acts hd (by simp [act, ht, ht2]) (by omega)
theorem method_29 {K : MK} (s : Sound K) {q : MQ} {f : Int} (m : Mid K q f) (a b d : Nat) (n : Int) (ig : InsGood K f ⟨29, a, b, d, n⟩) (xn : i64in n) : Method K q 29 a b d n := by
  have ha : a < 16 := by have := ig.a1; dsimp only at this; omega
  have hb : b < 16 := by have := ig.b1; dsimp only at this; omega
  have hd : d < 16 := by have := ig.c1; dsimp only at this; omega
  have nm := ig.num
  unfold numberOk at nm
  dsimp only at nm
  refine ⟨66, rfl, fun _ _ => by kernel_rfl, fun w C g c h hC hc => ?_⟩
  have hrs := m.half.regs
  cases ht : q.hp.lenB (q.regs b) with
  | true =>
    exact (show _ from mlength_ok w C g K q c h 29 a b d n ha hb (hrs _) ht).mono fun e w' hd => Did.acts hd (by simp [act, ht]) (by omega)
  | false =>
    exact (show _ from mlength_no w C g K q c h 29 a b d n hb (hrs _) ht).mono fun e w' hd => Stops.acts hd (by simp [act, ht]) (by omega)
theorem method_30 {K : MK} (s : Sound K) {q : MQ} {f : Int} (m : Mid K q f) (a b d : Nat) (n : Int) (ig : InsGood K f ⟨30, a, b, d, n⟩) (xn : i64in n) : Method K q 30 a b d n := by
  have ha : a < 16 := by have := ig.a1; dsimp only at this; omega
  have hb : b < 16 := by have := ig.b1; dsimp only at this; omega
  have hd : d < 16 := by have := ig.c1; dsimp only at this; omega
  have nm := ig.num
  unfold numberOk at nm
  dsimp only at nm
  refine ⟨67, rfl, fun _ _ => by kernel_rfl, fun w C g c h hC hc => ?_⟩
  have hrs := m.half.regs
  cases ht : q.hp.lenB (q.regs b) with
  | false =>
    exact (show _ from mldx_no w C g K q c h 30 a b d n 3 1 (fun w1 h1 => melement_a w1 C g K q c h1 30 a b d n hb hd (hrs _) ht)).mono fun e w' hd => Stops.acts hd (by simp [act, ht]) (by omega)
  | true =>
    by_cases ht2 : q.regs b = 0
    · exact (show _ from mldx_no w C g K q c h 30 a b d n 3 1 (fun w1 h1 => melement_b w1 C g K q c h1 30 a b d n hb hd (hrs _) ht ht2)).mono fun e w' hd => Stops.acts hd (by simp [act, ht, ht2]) (by omega)
    have hl := has_iff ht ht2 (q.regs d)
    by_cases ht3 : q.regs d < 0
    · have hh : q.hp.has (q.regs b) (q.regs d) = false := by rw [← Bool.not_eq_true, hl]; omega
      exact (show _ from mldx_no w C g K q c h 30 a b d n 3 2 (fun w1 h1 => melement_c w1 C g K q c h1 30 a b d n hb hd (hrs _) ht ht2 ht3)).mono fun e w' hd => Stops.acts hd (by simp [act, ht, ht2, hh]) (by omega)
    by_cases ht4 : q.hp.lenA (q.regs b) ≤ q.regs d
    · have hh : q.hp.has (q.regs b) (q.regs d) = false := by rw [← Bool.not_eq_true, hl]; omega
      exact (show _ from mldx_no w C g K q c h 30 a b d n 3 2 (fun w1 h1 => melement_d w1 C g K q c h1 30 a b d n hb hd (hrs _) ht ht2 ht3 ht4)).mono fun e w' hd => Stops.acts hd (by simp [act, ht, ht2, hh]) (by omega)
    · have hh : q.hp.has (q.regs b) (q.regs d) = true := by rw [hl]; omega
      exact (show _ from mldx_ok w C g K q c h 30 a b d n ha hb hd (hrs _) (fun w1 D h1 => melement_ok w1 D g K q c h1 30 a b d n hb hd (hrs _) ht ht2 ht3 ht4)).mono fun e w' hd => Did.acts hd (by simp [act, ht, ht2, hh]) (by omega)
theorem method_31 {K : MK} (s : Sound K) {q : MQ} {f : Int} (m : Mid K q f) (a b d : Nat) (n : Int) (ig : InsGood K f ⟨31, a, b, d, n⟩) (xn : i64in n) : Method K q 31 a b d n := by
  have ha : a < 16 := by have := ig.a1; dsimp only at this; omega
  have hb : b < 16 := by have := ig.b1; dsimp only at this; omega
  have hd : d < 16 := by have := ig.c1; dsimp only at this; omega
  have nm := ig.num
  unfold numberOk at nm
  dsimp only at nm
  refine ⟨68, rfl, fun _ _ => by kernel_rfl, fun w C g c h hC hc => ?_⟩
  have hrs := m.half.regs
  cases ht : q.hp.lenB (q.regs b) with
  | false =>
    exact (show _ from mstx_no w C g K q c h 31 a b d n 3 1 (fun w1 h1 => melement_a w1 C g K q c h1 31 a b d n hb hd (hrs _) ht)).mono fun e w' hd => Stops.acts hd (by simp [act, ht]) (by omega)
  | true =>
    by_cases ht2 : q.regs b = 0
    · exact (show _ from mstx_no w C g K q c h 31 a b d n 3 1 (fun w1 h1 => melement_b w1 C g K q c h1 31 a b d n hb hd (hrs _) ht ht2)).mono fun e w' hd => Stops.acts hd (by simp [act, ht, ht2]) (by omega)
    have hl := has_iff ht ht2 (q.regs d)
    by_cases ht3 : q.regs d < 0
    · have hh : q.hp.has (q.regs b) (q.regs d) = false := by rw [← Bool.not_eq_true, hl]; omega
      exact (show _ from mstx_no w C g K q c h 31 a b d n 3 2 (fun w1 h1 => melement_c w1 C g K q c h1 31 a b d n hb hd (hrs _) ht ht2 ht3)).mono fun e w' hd => Stops.acts hd (by simp [act, ht, ht2, hh]) (by omega)
    by_cases ht4 : q.hp.lenA (q.regs b) ≤ q.regs d
    · have hh : q.hp.has (q.regs b) (q.regs d) = false := by rw [← Bool.not_eq_true, hl]; omega
      exact (show _ from mstx_no w C g K q c h 31 a b d n 3 2 (fun w1 h1 => melement_d w1 C g K q c h1 31 a b d n hb hd (hrs _) ht ht2 ht3 ht4)).mono fun e w' hd => Stops.acts hd (by simp [act, ht, ht2, hh]) (by omega)
    · have hh : q.hp.has (q.regs b) (q.regs d) = true := by rw [hl]; omega
      exact (show _ from mstx_ok w C g K q c h 31 a b d n ha hb hd (by omega) (hrs _) (hrs _) (fun w1 D h1 => melement_ok w1 D g K q c h1 31 a b d n hb hd (hrs _) ht ht2 ht3 ht4)).mono fun e w' hd => Did.acts hd (by simp [act, ht, ht2, hh]) (by omega)
theorem method_32 {K : MK} (s : Sound K) {q : MQ} {f : Int} (m : Mid K q f) (a b d : Nat) (n : Int) (ig : InsGood K f ⟨32, a, b, d, n⟩) (xn : i64in n) : Method K q 32 a b d n := by
  have ha : a < 16 := by have := ig.a1; dsimp only at this; omega
  have hb : b < 16 := by have := ig.b1; dsimp only at this; omega
  have hd : d < 16 := by have := ig.c1; dsimp only at this; omega
  have nm := ig.num
  unfold numberOk at nm
  dsimp only at nm
  refine ⟨69, rfl, fun _ _ => by kernel_rfl, fun w C g c h hC hc => ?_⟩
  have hrs := m.half.regs
  by_cases ht : q.regs a = 0
  · exact (show _ from mtrapZero_no w C g K q c h 32 a b d n ha ht).mono fun e w' hd => Stops.acts hd (by simp [act, ht]) (by omega)
  · exact (show _ from mtrapZero_ok w C g K q c h 32 a b d n ha ht).mono fun e w' hd => Did.acts hd (by simp [act, ht]) (by omega)
theorem method_33 {K : MK} (s : Sound K) {q : MQ} {f : Int} (m : Mid K q f) (a b d : Nat) (n : Int) (ig : InsGood K f ⟨33, a, b, d, n⟩) (xn : i64in n) : Method K q 33 a b d n := by
  have ha : a < 16 := by have := ig.a1; dsimp only at this; omega
  have hb : b < 16 := by have := ig.b1; dsimp only at this; omega
  have hd : d < 16 := by have := ig.c1; dsimp only at this; omega
  have nm := ig.num
  unfold numberOk at nm
  dsimp only at nm
  refine ⟨70, rfl, fun _ _ => by kernel_rfl, fun w C g c h hC hc => ?_⟩
  have hrs := m.half.regs
  by_cases ht : q.regs a < 0
  · exact (show _ from mtrapNegative_no w C g K q c h 33 a b d n ha ht).mono fun e w' hd => Stops.acts hd (by simp [act, ht]) (by omega)
  · exact (show _ from mtrapNegative_ok w C g K q c h 33 a b d n ha ht).mono fun e w' hd => Did.acts hd (by simp [act, ht]) (by omega)
theorem method_34 {K : MK} (s : Sound K) {q : MQ} {f : Int} (m : Mid K q f) (a b d : Nat) (n : Int) (ig : InsGood K f ⟨34, a, b, d, n⟩) (xn : i64in n) : Method K q 34 a b d n := by
  have ha : a < 16 := by have := ig.a1; dsimp only at this; omega
  have hb : b < 16 := by have := ig.b1; dsimp only at this; omega
  have hd : d < 16 := by have := ig.c1; dsimp only at this; omega
  have nm := ig.num
  unfold numberOk at nm
  dsimp only at nm
  refine ⟨71, rfl, fun _ _ => by kernel_rfl, fun w C g c h hC hc => ?_⟩
  have hrs := m.half.regs
  by_cases ht : q.regs a < 0
  · exact (show _ from mtrapBound_neg w C g K q c h 34 a b d n ha hb ht).mono fun e w' hd => Stops.acts hd (by simp [act, ht]) (by omega)
  by_cases ht2 : q.regs b ≤ q.regs a
  · exact (show _ from mtrapBound_out w C g K q c h 34 a b d n ha hb ⟨ht, ht2⟩).mono fun e w' hd => Stops.acts hd (by simp [act, ht2]) (by omega)
  · exact (show _ from mtrapBound_ok w C g K q c h 34 a b d n ha hb ⟨ht, by omega⟩).mono fun e w' hd => Did.acts hd (by simp [act, ht, ht2]) (by omega)
theorem method_35 {K : MK} (s : Sound K) {q : MQ} {f : Int} (m : Mid K q f) (a b d : Nat) (n : Int) (ig : InsGood K f ⟨35, a, b, d, n⟩) (xn : i64in n) : Method K q 35 a b d n := by
  have ha : a < 16 := by have := ig.a1; dsimp only at this; omega
  have hb : b < 16 := by have := ig.b1; dsimp only at this; omega
  have hd : d < 16 := by have := ig.c1; dsimp only at this; omega
  have nm := ig.num
  unfold numberOk at nm
  dsimp only at nm
  refine ⟨72, rfl, fun _ _ => by kernel_rfl, fun w C g c h hC hc => ?_⟩
  have hrs := m.half.regs
  by_cases ht : n = 6
  · exact (show _ from mtrap_6 w C g K q c h 35 a b d n ha ht).mono fun e w' hd => Stops.acts hd (by simp [act, ht]) (by omega)
  · exact (show _ from mtrap_n w C g K q c h 35 a b d n ha ht).mono fun e w' hd => Stops.acts hd (by simp [act, ht]) (by omega)
theorem method_36 {K : MK} (s : Sound K) {q : MQ} {f : Int} (m : Mid K q f) (a b d : Nat) (n : Int) (ig : InsGood K f ⟨36, a, b, d, n⟩) (xn : i64in n) : Method K q 36 a b d n := by
  have ha : a < 16 := by have := ig.a1; dsimp only at this; omega
  have hb : b < 16 := by have := ig.b1; dsimp only at this; omega
  have hd : d < 16 := by have := ig.c1; dsimp only at this; omega
  have nm := ig.num
  unfold numberOk at nm
  dsimp only at nm
  refine ⟨73, rfl, fun _ _ => by kernel_rfl, fun w C g c h hC hc => ?_⟩
  have hrs := m.half.regs
  cases ht : q.inp with
  | nil =>
    exact (show _ from minp_no w C g K q c h 36 a b d n ht).mono fun e w' hd => Stops.acts hd (by simp [act, ht]) (by omega)
  | cons x r =>
    exact (show _ from minp_ok w C g K q c h 36 a b d n ha x r ht).mono fun e w' hd => Did.acts hd (by simp [act, ht]) (by omega)
theorem method_37 {K : MK} (s : Sound K) {q : MQ} {f : Int} (m : Mid K q f) (a b d : Nat) (n : Int) (ig : InsGood K f ⟨37, a, b, d, n⟩) (xn : i64in n) : Method K q 37 a b d n := by
  have ha : a < 16 := by have := ig.a1; dsimp only at this; omega
  have hb : b < 16 := by have := ig.b1; dsimp only at this; omega
  have hd : d < 16 := by have := ig.c1; dsimp only at this; omega
  have nm := ig.num
  unfold numberOk at nm
  dsimp only at nm
  refine ⟨74, rfl, fun _ _ => by kernel_rfl, fun w C g c h hC hc => ?_⟩
  have hrs := m.half.regs
  have hev := m.half.evn
  exact (show _ from moutInt_c w C g K q c h 37 a b d n ha hC (by omega)).mono fun e w' hd => Did.acts hd (by simp [act]) (by omega)
theorem method_38 {K : MK} (s : Sound K) {q : MQ} {f : Int} (m : Mid K q f) (a b d : Nat) (n : Int) (ig : InsGood K f ⟨38, a, b, d, n⟩) (xn : i64in n) : Method K q 38 a b d n := by
  have ha : a < 16 := by have := ig.a1; dsimp only at this; omega
  have hb : b < 16 := by have := ig.b1; dsimp only at this; omega
  have hd : d < 16 := by have := ig.c1; dsimp only at this; omega
  have nm := ig.num
  unfold numberOk at nm
  dsimp only at nm
  refine ⟨75, rfl, fun _ _ => by kernel_rfl, fun w C g c h hC hc => ?_⟩
  have hrs := m.half.regs
  have hev := m.half.evn
  by_cases ht : q.regs a = 0 ∨ q.regs a = 1
  · exact (show _ from moutBool_ok w C g K q c h 38 a b d n ha hC (by omega) ht).mono fun e w' hd => Did.acts hd (by simp [act, ht]) (by omega)
  · exact (show _ from moutBool_no w C g K q c h 38 a b d n ha (hrs _) ht).mono fun e w' hd => Stops.acts hd (by simp [act, ht]) (by omega)
theorem method_c {K : MK} (s : Sound K) {q : MQ} {f : Int} (m : Mid K q f) (op : Int) (a b d : Nat) (n : Int) (ig : InsGood K f ⟨op, a, b, d, n⟩) (xn : i64in n) : Method K q op a b d n := by
  have o1 := ig.o1
  have o2 := ig.o2
  dsimp only at o1 o2
  rcases (show op = 1 ∨ op = 2 ∨ op = 3 ∨ op = 4 ∨ op = 5 ∨ op = 6 ∨ op = 7 ∨ op = 8 ∨ op = 9 ∨ op = 10 ∨ op = 11 ∨ op = 12 ∨ op = 13 ∨ op = 14 ∨ op = 15 ∨ op = 16 ∨ op = 17 ∨ op = 18 ∨ op = 19 ∨ op = 20 ∨ op = 21 ∨ op = 22 ∨ op = 23 ∨ op = 24 ∨ op = 25 ∨ op = 26 ∨ op = 27 ∨ op = 28 ∨ op = 29 ∨ op = 30 ∨ op = 31 ∨ op = 32 ∨ op = 33 ∨ op = 34 ∨ op = 35 ∨ op = 36 ∨ op = 37 ∨ op = 38 by omega) with rfl | rfl | rfl | rfl | rfl | rfl | rfl | rfl | rfl | rfl | rfl | rfl | rfl | rfl | rfl | rfl | rfl | rfl | rfl | rfl | rfl | rfl | rfl | rfl | rfl | rfl | rfl | rfl | rfl | rfl | rfl | rfl | rfl | rfl | rfl | rfl | rfl | rfl
  · exact method_1 s m a b d n ig xn
  · exact method_2 s m a b d n ig xn
  · exact method_3 s m a b d n ig xn
  · exact method_4 s m a b d n ig xn
  · exact method_5 s m a b d n ig xn
  · exact method_6 s m a b d n ig xn
  · exact method_7 s m a b d n ig xn
  · exact method_8 s m a b d n ig xn
  · exact method_9 s m a b d n ig xn
  · exact method_10 s m a b d n ig xn
  · exact method_11 s m a b d n ig xn
  · exact method_12 s m a b d n ig xn
  · exact method_13 s m a b d n ig xn
  · exact method_14 s m a b d n ig xn
  · exact method_15 s m a b d n ig xn
  · exact method_16 s m a b d n ig xn
  · exact method_17 s m a b d n ig xn
  · exact method_18 s m a b d n ig xn
  · exact method_19 s m a b d n ig xn
  · exact method_20 s m a b d n ig xn
  · exact method_21 s m a b d n ig xn
  · exact method_22 s m a b d n ig xn
  · exact method_23 s m a b d n ig xn
  · exact method_24 s m a b d n ig xn
  · exact method_25 s m a b d n ig xn
  · exact method_26 s m a b d n ig xn
  · exact method_27 s m a b d n ig xn
  · exact method_28 s m a b d n ig xn
  · exact method_29 s m a b d n ig xn
  · exact method_30 s m a b d n ig xn
  · exact method_31 s m a b d n ig xn
  · exact method_32 s m a b d n ig xn
  · exact method_33 s m a b d n ig xn
  · exact method_34 s m a b d n ig xn
  · exact method_35 s m a b d n ig xn
  · exact method_36 s m a b d n ig xn
  · exact method_37 s m a b d n ig xn
  · exact method_38 s m a b d n ig xn
end Go.Proofs.Ytkjfbojmkkdgoaa
