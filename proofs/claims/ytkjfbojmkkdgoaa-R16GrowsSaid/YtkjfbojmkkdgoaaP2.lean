/- r16's machine as a plain thing: what is always so stays so. -/
import Derived.Test.YtkjfbojmkkdgoaaP1
set_option linter.unusedVariables false
set_option linter.unusedSimpArgs false
namespace Go.Proofs.Ytkjfbojmkkdgoaa
open Go.RowKit
/-! ### numbers -/
theorem in_wrap (n : Int) : i64in (wrap64 n) := by unfold i64in wrap64; omega
theorem in_iwrap (n : Int) : i64in (IntKind.i64.wrap n) := by rw [IntKind.wrap_i64]; unfold i64in; omega
theorem in_bits (op : BinOp) (a b : Int) : i64in (bits op .i64 a b) := by
  unfold bits
  split <;> first | exact in_iwrap _ | exact in_wrap _
theorem in_tr (b : Bool) : i64in (tr b) := by cases b <;> exact ⟨by decide, by decide⟩
theorem in_0 : i64in 0 := ⟨by decide, by decide⟩
theorem in_1 : i64in 1 := ⟨by decide, by decide⟩
theorem in_div_pow {a : Int} (h : i64in a) (n : Nat) : i64in (a / 2 ^ n) := by
  obtain ⟨h1, h2⟩ := h
  have hp : (0 : Int) < 2 ^ n := Int.pow_pos (by decide)
  have h1' : (1 : Int) ≤ 2 ^ n := hp
  constructor
  · rw [Int.le_ediv_iff_mul_le hp]
    generalize (2 : Int) ^ n = m at *
    omega
  · rcases Int.lt_or_le a 0 with h | h
    · have := Int.ediv_neg_of_neg_of_pos h hp; omega
    · have := Int.ediv_le_self (2 ^ n) h; omega
theorem in_tmod {a b : Int} (h : i64in a) : i64in (a.tmod b) := by
  obtain ⟨h1, h2⟩ := h
  rcases Int.lt_or_le a 0 with h | h
  · have e : a.tmod b = -((-a).tmod b) := by rw [Int.neg_tmod, Int.neg_neg]
    have h3 : 0 ≤ (-a).tmod b := Int.tmod_nonneg b (by omega)
    have h4 : (-a).tmod b ≤ -a := by
      have := Int.natAbs_tmod (-a) b
      have h5 := Nat.mod_le (-a).natAbs b.natAbs
      omega
    unfold i64in; omega
  · have h3 : 0 ≤ a.tmod b := Int.tmod_nonneg b h
    have h4 : a.tmod b ≤ a := by
      have := Int.natAbs_tmod a b
      have h5 := Nat.mod_le a.natAbs b.natAbs
      omega
    unfold i64in; omega
theorem ite_in {c : Prop} [Decidable c] {a b : Int} (h1 : i64in a) (h2 : i64in b) : i64in (if c then a else b) := by split <;> assumption
theorem wdo_in (op : Int) {a b : Int} (ha : i64in a) : i64in (wdo op a b) := by
  have h0 := in_0
  unfold wdo
  repeat' with_reducible refine ite_in ?_ ?_
  · exact in_wrap _
  · exact in_wrap _
  · exact in_wrap _
  · exact ite_in h0 (in_wrap _)
  · exact ite_in h0 (in_tmod ha)
  · exact in_bits _ _ _
  · exact in_bits _ _ _
  · exact in_bits _ _ _
  · exact in_bits _ _ _
  · exact ite_in h0 (in_iwrap _)
  · exact ite_in h0 (in_div_pow ha _)
  · exact in_tr _
  · exact in_tr _
  · exact in_tr _
  · exact in_tr _
  · exact in_wrap _
  · exact in_bits _ _ _
  · exact in_wrap _
  · exact h0
/-! ### instructions of code -/
theorem firstOf_le {K : MK} (s : Sound K) : ∀ k, k ≤ K.nf → 0 ≤ firstOf K.Fs k ∧ firstOf K.Fs k ≤ (K.ni : Int)
  | 0, _ => by unfold firstOf; omega
  | k + 1, h => by
    have h1 := firstOf_le s k (by omega)
    have h2 := s.code.1 k (by omega)
    have := h2.2.1
    have := h2.2.2.1
    unfold firstOf
    omega
structure InsGood (K : MK) (f : Int) (i : Ins) : Prop where
  o1 : 1 ≤ i.op
  o2 : i.op ≤ 38
  a0 : 0 ≤ i.a
  a1 : i.a < 16
  b0 : 0 ≤ i.b
  b1 : i.b < 16
  c0 : 0 ≤ i.c
  c1 : i.c < 16
  num : numberOk K.nf (K.Fs f.toNat) i = true
theorem fieldOk_in {n : Int} {u : Bool} (h : fieldOk n u = true) : 0 ≤ n ∧ n < 16 := by
  unfold fieldOk at h
  simp at h
  omega
theorem usesOf_in {op : Int} (h : (usesOf op).2 = true) : 1 ≤ op ∧ op ≤ 38 := by
  refine Decidable.byContradiction fun hn => ?_
  have e : ∀ k : Int, 1 ≤ k → k ≤ 38 → (op == k) = false := fun k _ _ => beq_eq_false_iff_ne.2 (by omega)
  unfold usesOf at h
  simp only [e 27 (by decide) (by decide), e 1 (by decide) (by decide), e 22 (by decide) (by decide), e 23 (by decide) (by decide), e 24 (by decide) (by decide), e 25 (by decide) (by decide), e 32 (by decide) (by decide), e 33 (by decide) (by decide), e 35 (by decide) (by decide), e 2 (by decide) (by decide), e 18 (by decide) (by decide), e 19 (by decide) (by decide), e 20 (by decide) (by decide), e 28 (by decide) (by decide), e 29 (by decide) (by decide), e 30 (by decide) (by decide), e 31 (by decide) (by decide), e 21 (by decide) (by decide), e 26 (by decide) (by decide), e 34 (by decide) (by decide), e 36 (by decide) (by decide), e 37 (by decide) (by decide), e 38 (by decide) (by decide)] at h
  simp at h
  omega
theorem insOk_good {K : MK} {f : Int} {i : Ins} (h : insOk K.nf (K.Fs f.toNat) i = true) : InsGood K f i := by
  unfold insOk at h
  simp only [Bool.and_eq_true] at h
  obtain ⟨⟨⟨⟨h1, h2⟩, h3⟩, h4⟩, h5⟩ := h
  have u := usesOf_in h1
  have ha := fieldOk_in h2
  have hb := fieldOk_in h3
  have hc := fieldOk_in h4
  exact ⟨u.1, u.2, ha.1, ha.2, hb.1, hb.2, hc.1, hc.2, h5⟩
theorem Sound.range {K : MK} (s : Sound K) {f a : Int} (h : InFn K f) (ha : InF K f a) : 0 ≤ a ∧ a < (K.ni : Int) := by
  have o := s.one h
  have l := firstOf_le s f.toNat (by unfold InFn at h; omega)
  unfold InF at ha
  have := o.1
  have := o.2.2.1
  omega
theorem Sound.ins {K : MK} (s : Sound K) {f a : Int} (h : InFn K f) (ha : InF K f a) : InsGood K f (K.X a.toNat) ∧ (lastOk (K.X a.toNat).op = false → InF K f (a + 1)) := by
  have o := s.one h
  have l := firstOf_le s f.toNat (by unfold InFn at h; omega)
  obtain ⟨a1, a2⟩ := ha
  obtain ⟨o1, o2, o3, _, _, _, _, _, _, o4, o5⟩ := o
  constructor
  · have := o4 (a - (K.Fs f.toNat).first).toNat (by omega)
    rw [show (firstOf K.Fs f.toNat).toNat + (a - (K.Fs f.toNat).first).toNat = a.toNat by omega] at this
    exact insOk_good this
  · intro hl
    refine ⟨by omega, ?_⟩
    rcases Int.lt_or_le (a + 1) ((K.Fs f.toNat).first + (K.Fs f.toNat).count) with h1 | h1
    · exact h1
    · exfalso
      rw [show (firstOf K.Fs f.toNat).toNat + ((K.Fs f.toNat).count.toNat - 1) = a.toNat by omega, hl] at o5
      cases o5
/-! ### a step -/
structure Half (K : MK) (q : MQ) : Prop where
  regs : ∀ j, i64in (q.regs j)
  st : ∀ j, i64in (q.st j)
  inp : ∀ x ∈ q.inp, i64in x
  hv : ∀ j v, q.hp.wd j = some v → i64in v
  hok : q.hp.Ok
  htk : q.hp.tk ≤ K.hl
  ev : ∀ e ∈ q.ev, i64in e.2
  evn : q.ev.length ≤ 1048576
theorem Good.half {K : MK} {q : MQ} (h : Good K q) : Half K q := ⟨h.regs, h.st, h.inp, h.hv, h.hok, h.htk, h.ev, h.evn⟩
theorem Half.good {K : MK} {q : MQ} (h : Half K q) (r : q.fin = 0 → RunOk K q) : Good K q := ⟨h.regs, h.st, h.inp, h.hv, h.hok, h.htk, h.ev, h.evn, r⟩
theorem Half.reg {K : MK} {q : MQ} (h : Half K q) (a : Nat) {v : Int} (hv : i64in v) : Half K (q.reg a v) :=
  ⟨fun j => by show i64in (if j = (a : Int) then v else q.regs j); split; exact hv; exact h.regs j, h.st, h.inp, h.hv, h.hok, h.htk, h.ev, h.evn⟩
theorem Half.sset {K : MK} {q : MQ} (h : Half K q) (i : Int) {v : Int} (hv : i64in v) : ∀ j, i64in (sset q.st i v j) := fun j => by unfold Go.Proofs.Ytkjfbojmkkdgoaa.sset; split; exact hv; exact h.st j
theorem Half.fins {K : MK} {q : MQ} (h : Half K q) {a b v : Int} (ha : a ≠ 0) : Good K (q.fins a b v) := Half.good ⟨h.regs, h.st, h.inp, h.hv, h.hok, h.htk, h.ev, h.evn⟩ fun e => absurd e ha
theorem RunOk.reg {K : MK} {q : MQ} (h : RunOk K q) (a : Nat) (v : Int) : RunOk K (q.reg a v) := ⟨h.chain, h.sz, h.in_⟩
theorem RunOk.cl {K : MK} {q : MQ} (h : RunOk K q) : ∃ f l, q.cl.reverse = f :: l ∧ q.cl.getLastD 0 = f := by
  cases hc : q.cl.reverse with
  | nil => have := h.chain; rw [hc] at this; exact this.elim
  | cons f l =>
    refine ⟨f, l, rfl, ?_⟩
    have : q.cl = l.reverse ++ [f] := by rw [← List.reverse_reverse q.cl, hc, List.reverse_cons]
    rw [this]
    simp
theorem RunOk.fn {K : MK} {q : MQ} (h : RunOk K q) : InFn K (q.cl.getLastD 0) := by
  obtain ⟨f, l, h1, h2⟩ := h.cl
  have := h.chain
  rw [h1] at this
  rw [h2]
  exact this.head
theorem hv_get {q : QH} (h : ∀ j v, q.wd j = some v → i64in v) (a i : Int) : i64in (q.getA a i) := by
  have h0 := in_0
  unfold QH.getA
  split
  · cases hw : q.wd (a + 1 + i) with
    | none => exact h0
    | some v => exact h _ _ hw
  · exact h0
theorem hv_set {q : QH} (h : ∀ j v, q.wd j = some v → i64in v) (a i : Int) {x : Int} (hx : i64in x) : ∀ j v, (q.set a i x).wd j = some v → i64in v := by
  intro j v
  unfold QH.set
  split
  · show upd q.wd (a + 1 + i) x j = some v → _
    unfold upd
    split
    · intro e; injection e with e; rw [← e]; exact hx
    · exact h j v
  · exact h j v
theorem in_lenA {q : QH} (h : q.Ok) (a : Int) : i64in (q.lenA a) := by
  have h0 := in_0
  unfold QH.lenA
  split
  · exact h0
  · cases hs : q.sz a with
    | none => exact h0
    | some n =>
      have := h.2.2 a n hs
      have := h.2.1
      simp only [Option.getD_some]
      unfold i64in
      omega
theorem ite_ind2 {P : MQ → Prop} {c : Prop} [Decidable c] {a b : MQ} (h1 : c → P a) (h2 : ¬ c → P b) : P (if c then a else b) := by
  split
  · rename_i h; exact h1 h
  · rename_i h; exact h2 h
/-- One step: what is always so stays so. -/
theorem good_next {K : MK} (s : Sound K) {q : MQ} (g : Good K q) (h : goes K q = true) : Good K (next K q) := by
  unfold goes at h
  simp only [Bool.and_eq_true, beq_iff_eq, Bool.not_eq_true'] at h
  obtain ⟨hf, hr⟩ := h
  have R := g.run hf
  have fn := R.fn
  obtain ⟨ig, nx⟩ := s.ins fn R.in_
  have H : Half K q.tick := ⟨g.regs, g.st, g.inp, g.hv, g.hok, g.htk, g.ev, g.evn⟩
  have RT : lastOk (K.X q.at_.toNat).op = false → RunOk K q.tick := fun hl => ⟨R.chain, R.sz, nx hl⟩
  have xn := s.xn q.at_.toNat (by have := s.range fn R.in_; omega)
  obtain ⟨f, l, hcl, hlast⟩ := R.cl
  rw [hlast] at fn ig
  have hch := R.chain
  rw [hcl] at hch
  have hsz := R.sz
  rw [hlast] at hsz
  have htop := hch.top
  have hdeep := Chain.deep s hch
  have hfr2 := s.frame2 fn
  unfold rests at hr
  unfold next
  generalize K.X q.at_.toNat = i at *
  have reg : ∀ (a : Nat) (v : Int), i64in v → lastOk i.op = false → Good K (q.tick.reg a v) := fun a v hv hl => (H.reg a hv).good fun _ => (RT hl).reg a v
  have stay : lastOk i.op = false → Good K q.tick := fun hl => H.good fun _ => RT hl
  have ra := g.regs i.a
  have rb := g.regs i.b
  have rc := g.regs i.c
  have hnum := ig.num
  unfold numberOk at hnum
  have jump : (i.op = 21 ∨ i.op = 22 ∨ i.op = 23) → Good K { q.tick with at_ := i.n } := fun ho => by
    refine Half.good ⟨H.regs, H.st, H.inp, H.hv, H.hok, H.htk, H.ev, H.evn⟩ fun _ => ⟨R.chain, R.sz, ?_⟩
    show InF K (q.cl.getLastD 0) i.n
    rw [hlast]
    rw [if_neg (by simp; omega), if_pos (by simp; omega)] at hnum
    simp at hnum
    exact ⟨hnum.1, by omega⟩
  have o1 := ig.o1
  have o2 := ig.o2
  have last : ∀ {o : Int}, i.op = o → lastOk o = false → lastOk i.op = false := fun e h => by rw [e]; exact h
  unfold act
  simp only []
  refine ite_ind2 (P := Good K) (fun _ => ?_) (fun _ => ?_)
  · rename_i ho; exact reg _ _ xn (last ho rfl)
  refine ite_ind2 (P := Good K) (fun _ => ?_) (fun _ => ?_)
  · rename_i ho; exact reg _ _ rb (last ho rfl)
  refine ite_ind2 (P := Good K) (fun _ => ?_) (fun _ => ?_)
  · exact H.fins (by decide)
  refine ite_ind2 (P := Good K) (fun _ => ?_) (fun _ => ?_)
  · exact H.fins (by decide)
  have lo : i.op ≤ 20 → lastOk i.op = false := fun h => by unfold lastOk; simp; omega
  refine ite_ind2 (P := Good K) (fun _ => ?_) (fun _ => ?_)
  · rename_i ho; exact reg _ _ (wdo_in _ rb) (lo (by omega))
  refine ite_ind2 (P := Good K) (fun _ => ?_) (fun _ => ?_)
  · rename_i ho; exact reg _ _ (wdo_in _ rb) (lo (by omega))
  refine ite_ind2 (P := Good K) (fun _ => ?_) (fun _ => ?_)
  · rename_i ho
    refine ite_ind2 (P := Good K) (fun _ => ?_) (fun _ => ?_)
    · rename_i ht
      refine reg _ _ ?_ (lo (by omega))
      show i64in (1 - q.regs i.b)
      rcases ht with ht | ht
      · rw [show q.regs i.b = 0 from ht]; exact in_1
      · rw [show q.regs i.b = 1 from ht]; exact in_0
    · exact H.fins (by decide)
  refine ite_ind2 (P := Good K) (fun _ => ?_) (fun _ => ?_)
  · rename_i ho; exact jump (.inl ho)
  refine ite_ind2 (P := Good K) (fun _ => ?_) (fun _ => ?_)
  · rename_i ho
    refine ite_ind2 (P := Good K) (fun _ => ?_) (fun _ => ?_)
    · exact jump (.inr (.inl ho))
    · exact stay (last ho rfl)
  refine ite_ind2 (P := Good K) (fun _ => ?_) (fun _ => ?_)
  · rename_i ho
    refine ite_ind2 (P := Good K) (fun _ => ?_) (fun _ => ?_)
    · exact stay (last ho rfl)
    · exact jump (.inr (.inr ho))
  refine ite_ind2 (P := Good K) (fun _ => ?_) (fun _ => ?_)
  · rename_i ho; exact reg _ _ (g.st _) (last ho rfl)
  refine ite_ind2 (P := Good K) (fun _ => ?_) (fun _ => ?_)
  · rename_i ho
    refine Half.good ⟨H.regs, H.sset _ ra, H.inp, H.hv, H.hok, H.htk, H.ev, H.evn⟩ fun _ => ⟨?_, R.sz, nx (last ho rfl)⟩
    show Chain K (sset q.st (q.fr + i.n) (q.regs i.a)) q.cl.reverse q.fr
    rw [if_neg (by simp; omega), if_neg (by simp; omega), if_pos (by simp; omega)] at hnum
    simp at hnum
    exact Chain.congr s R.chain fun j hj => sset_ne _ _ (by omega)
  refine ite_ind2 (P := Good K) (fun _ => ?_) (fun _ => ?_)
  · rename_i ho
    refine ite_ind2 (P := Good K) (fun _ => ?_) (fun _ => ?_)
    · exact H.fins (by decide)
    · rename_i hno
      rw [if_neg (by simp; omega), if_neg (by simp; omega), if_neg (by simp; omega), if_pos (by simp; omega)] at hnum
      simp at hnum
      have hn2 : InFn K i.n := hnum
      have on := s.one hn2
      have bx : i64in q.tick.at_ := by
        have := s.range fn (hlast ▸ nx (last ho rfl) : InF K f (q.at_ + 1))
        have hni := s.nis
        show i64in (q.at_ + 1)
        unfold i64in; omega
      have hcl2 : (q.cl ++ [((i.n.toNat : Nat) : Int)]).reverse = ((i.n.toNat : Nat) : Int) :: f :: l := by rw [List.reverse_append, hcl]; rfl
      have hN : ((i.n.toNat : Nat) : Int) = i.n := by omega
      have hgl : (q.cl ++ [((i.n.toNat : Nat) : Int)]).getLastD 0 = i.n := by rw [hN]; simp
      have s1 := s.s1
      have hno' : ¬ K.sl - (q.fr + q.sz) < (K.Fs i.n.toNat).frame := hno
      have e1 : sset (sset q.st (q.fr + q.sz) (q.at_ + 1)) (q.fr + q.sz + 1) q.fr (q.fr + q.sz) = q.at_ + 1 := by rw [sset_ne _ _ (by omega), sset_eq]
      have e2 : sset (sset q.st (q.fr + q.sz) (q.at_ + 1)) (q.fr + q.sz + 1) q.fr (q.fr + q.sz + 1) = q.fr := sset_eq _ _ _
      refine Half.good ⟨H.regs, fun j => ?_, H.inp, H.hv, H.hok, H.htk, H.ev, H.evn⟩ fun _ => ⟨?_, ?_, ?_⟩
      · show i64in (sset (sset q.st (q.fr + q.sz) (q.at_ + 1)) (q.fr + q.sz + 1) q.fr j)
        unfold sset
        split
        · unfold i64in; omega
        split
        · exact bx
        · exact g.st j
      · show Chain K (sset (sset q.st (q.fr + q.sz) (q.at_ + 1)) (q.fr + q.sz + 1) q.fr) (q.cl ++ [((i.n.toNat : Nat) : Int)]).reverse (q.fr + q.sz)
        rw [hcl2, hN]
        refine ⟨hn2, by omega, ?_, ?_, ?_⟩
        · rw [e1]; exact (hlast ▸ nx (last ho rfl) : InF K f (q.at_ + 1))
        · rw [e2, hsz]
        · rw [e2]
          exact Chain.congr s hch fun j hj => by rw [sset_ne _ _ (by omega), sset_ne _ _ (by omega)]
      · show (K.Fs i.n.toNat).frame = (K.Fs ((q.cl ++ [((i.n.toNat : Nat) : Int)]).getLastD 0).toNat).frame
        rw [hgl]
      · show InF K ((q.cl ++ [((i.n.toNat : Nat) : Int)]).getLastD 0) (K.Fs i.n.toNat).first
        have := on.2.1
        rw [hgl]
        exact ⟨Int.le_refl _, by omega⟩
  refine ite_ind2 (P := Good K) (fun _ => ?_) (fun _ => ?_)
  · rename_i ho
    refine ite_ind2 (P := Good K) (fun _ => ?_) (fun _ => ?_)
    · exact Half.fins (q := { q.tick with cl := [] }) ⟨H.regs, H.st, H.inp, H.hv, H.hok, H.htk, H.ev, H.evn⟩ (by decide)
    · rename_i hlen
      have hlen' : ¬ q.cl.length = 1 := hlen
      cases l with
      | nil =>
        exfalso
        have := congrArg List.length hcl
        simp at this
        omega
      | cons k l =>
        have hq : q.cl = (k :: l).reverse ++ [f] := by rw [← List.reverse_reverse q.cl, hcl, List.reverse_cons]
        have hd : q.cl.dropLast = (k :: l).reverse := by rw [hq, List.dropLast_concat]
        have hg : q.cl.dropLast.getLastD 0 = k := by rw [hd]; simp
        obtain ⟨_, _, c3, c4, c5⟩ := hch
        refine Half.good ⟨H.regs, H.st, H.inp, H.hv, H.hok, H.htk, H.ev, H.evn⟩ fun _ => ⟨?_, ?_, ?_⟩
        · show Chain K q.st q.cl.dropLast.reverse (q.st (q.fr + 1))
          rw [hd, List.reverse_reverse]
          exact c5
        · rfl
        · show InF K (q.cl.dropLast.getLastD 0) (q.st q.fr)
          rw [hg]
          exact c3
  refine ite_ind2 (P := Good K) (fun _ => ?_) (fun _ => ?_)
  · rename_i ho
    refine ite_ind2 (P := Good K) (fun _ => ?_) (fun _ => ?_)
    · exact H.fins (by decide)
    rename_i hb0
    refine ite_ind2 (P := Good K) (fun _ => ?_) (fun _ => ?_)
    · exact H.fins (by decide)
    · rename_i hb1
      have hb0' : ¬ q.regs i.b < 0 := hb0
      have hb1' : ¬ K.hl - q.hp.tk ≤ q.regs i.b := hb1
      have h1 := s.h1
      have htk := g.htk
      have hok := g.hok
      have hfit : fitsB q.hp.tk (q.regs i.b) = true := (fitsB_iff _ _).2 ⟨by omega, by have := hok.1; omega⟩
      refine Half.good (Half.reg (q := { q.tick with hp := q.hp.make (q.regs i.b) }) ⟨H.regs, H.st, H.inp, ?_, g.hok.make _, ?_, H.ev, H.evn⟩ _ ?_) fun _ => ⟨R.chain, R.sz, nx (last ho rfl)⟩
      · intro j v
        show (q.hp.make (q.regs i.b)).wd j = some v → _
        unfold QH.make
        rw [if_pos hfit]
        exact g.hv j v
      · show (q.hp.make (q.regs i.b)).tk ≤ K.hl
        unfold QH.make
        rw [if_pos hfit]
        show q.hp.tk + q.regs i.b + 1 ≤ K.hl
        omega
      · show i64in (q.hp.tk + 1)
        have := hok.1
        have := hok.2.1
        unfold i64in; omega
  refine ite_ind2 (P := Good K) (fun _ => ?_) (fun _ => ?_)
  · rename_i ho
    refine ite_ind2 (P := Good K) (fun _ => ?_) (fun _ => ?_)
    · exact reg _ _ (in_lenA g.hok _) (last ho rfl)
    · exact H.fins (by decide)
  refine ite_ind2 (P := Good K) (fun _ => ?_) (fun _ => ?_)
  · rename_i ho
    refine ite_ind2 (P := Good K) (fun _ => ?_) (fun _ => ?_)
    · exact H.fins (by decide)
    refine ite_ind2 (P := Good K) (fun _ => ?_) (fun _ => ?_)
    · exact reg _ _ (hv_get g.hv _ _) (last ho rfl)
    · exact H.fins (by decide)
  refine ite_ind2 (P := Good K) (fun _ => ?_) (fun _ => ?_)
  · rename_i ho
    refine ite_ind2 (P := Good K) (fun _ => ?_) (fun _ => ?_)
    · exact H.fins (by decide)
    refine ite_ind2 (P := Good K) (fun _ => ?_) (fun _ => ?_)
    · exact Half.good ⟨H.regs, H.st, H.inp, hv_set g.hv _ _ ra, g.hok.set _ _ _, by show (q.hp.set _ _ _).tk ≤ _; unfold QH.set; split <;> exact g.htk, H.ev, H.evn⟩ fun _ => ⟨R.chain, R.sz, nx (last ho rfl)⟩
    · exact H.fins (by decide)
  refine ite_ind2 (P := Good K) (fun _ => ?_) (fun _ => ?_)
  · rename_i ho
    refine ite_ind2 (P := Good K) (fun _ => ?_) (fun _ => ?_)
    · exact H.fins (by decide)
    · exact stay (last ho rfl)
  refine ite_ind2 (P := Good K) (fun _ => ?_) (fun _ => ?_)
  · rename_i ho
    refine ite_ind2 (P := Good K) (fun _ => ?_) (fun _ => ?_)
    · exact H.fins (by decide)
    · exact stay (last ho rfl)
  refine ite_ind2 (P := Good K) (fun _ => ?_) (fun _ => ?_)
  · rename_i ho
    refine ite_ind2 (P := Good K) (fun _ => ?_) (fun _ => ?_)
    · exact H.fins (by decide)
    · exact stay (last ho rfl)
  refine ite_ind2 (P := Good K) (fun _ => ?_) (fun _ => ?_)
  · split
    · exact H.fins (by decide)
    · exact H.fins (by decide)
  refine ite_ind2 (P := Good K) (fun _ => ?_) (fun _ => ?_)
  · rename_i ho
    split
    · exact H.fins (by decide)
    · rename_i x r hx
      have hi : ∀ y ∈ x :: r, i64in y := fun y hy => g.inp y (by rw [show q.inp = x :: r from hx]; exact hy)
      refine Half.good (Half.reg (q := { q.tick with inp := r }) ⟨H.regs, H.st, fun y hy => hi y (List.mem_cons_of_mem _ hy), H.hv, H.hok, H.htk, H.ev, H.evn⟩ _ (hi x (List.mem_cons_self ..))) fun _ => ⟨R.chain, R.sz, nx (last ho rfl)⟩
  have evs_ : ∀ k v, i64in v → q.ev.length < 1048576 → lastOk i.op = false → Good K { q.tick with ev := q.tick.ev ++ [(k, v)] } := fun k v hv hlt hl => by
    refine Half.good ⟨H.regs, H.st, H.inp, H.hv, H.hok, H.htk, fun e he => ?_, ?_⟩ fun _ => ⟨R.chain, R.sz, nx hl⟩
    · rcases List.mem_append.1 he with he | he
      · exact g.ev e he
      · rw [List.mem_singleton.1 he]; exact hv
    · show (q.ev ++ [(k, v)]).length ≤ _
      simp; omega
  refine ite_ind2 (P := Good K) (fun _ => ?_) (fun _ => ?_)
  · rename_i ho
    refine evs_ _ _ ra ?_ (last ho rfl)
    simp [ho] at hr
    omega
  · rename_i ho
    refine ite_ind2 (P := Good K) (fun _ => ?_) (fun _ => ?_)
    · rename_i ht
      have h38 : i.op = 38 := by omega
      refine evs_ _ _ ra ?_ (last h38 rfl)
      have ht' : q.regs i.a = 0 ∨ q.regs i.a = 1 := ht
      rcases ht' with e | e <;> simp [h38, e] at hr <;> omega
    · exact H.fins (by decide)
end Go.Proofs.Ytkjfbojmkkdgoaa
