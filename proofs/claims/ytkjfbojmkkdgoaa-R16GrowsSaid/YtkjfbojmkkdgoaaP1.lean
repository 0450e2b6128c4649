/- r16's machine as a plain thing: what a step does; what is always so. -/
import Derived.Test.YtkjfbojmkkdgoaaX3
set_option linter.unusedVariables false
set_option linter.unusedSimpArgs false
namespace Go.Proofs.Ytkjfbojmkkdgoaa
open Go.RowKit
def MQ.fins (q : MQ) (a b v : Int) : MQ := { q with fin := a, kind := b, val := v }
def sset (st : Int → Int) (i v : Int) : Int → Int := fun j => if j = i then v else st j
theorem sset_eq (st : Int → Int) (i v : Int) : sset st i v i = v := if_pos rfl
theorem sset_ne (st : Int → Int) {i j : Int} (v : Int) (h : j ≠ i) : sset st i v j = st j := if_neg h
def MQ.begin (q : MQ) (K : MK) (f : Nat) (fr back caller : Int) : MQ :=
  { q with st := sset (sset q.st fr back) (fr + 1) caller, fr := fr, sz := (K.Fs f).frame, at_ := (K.Fs f).first, cl := q.cl ++ [(f : Int)], depth := max q.depth ((q.cl.length : Int) + 1) }
def MQ.ret (q : MQ) (K : MK) : MQ :=
  { q with cl := q.cl.dropLast, at_ := q.st q.fr, fr := q.st (q.fr + 1), sz := (K.Fs (q.cl.dropLast.getLastD 0).toNat).frame }
/-- What an instruction does, behind the step's own count. -/
def act (K : MK) (q : MQ) (i : Ins) : MQ :=
  let a := i.a.toNat
  let ra := q.regs i.a
  let rb := q.regs i.b
  let rc := q.regs i.c
  if i.op = 1 then q.reg a i.n
  else if i.op = 2 then q.reg a rb
  else if (i.op = 6 ∨ i.op = 7) ∧ rc = 0 then q.fins 3 3 0
  else if (i.op = 12 ∨ i.op = 13) ∧ rc < 0 then q.fins 3 4 0
  else if i.op ≤ 17 then q.reg a (wdo (i.op - 1) rb rc)
  else if i.op ≤ 19 then q.reg a (wdo (i.op - 1) rb 0)
  else if i.op = 20 then (if rb = 0 ∨ rb = 1 then q.reg a (1 - rb) else q.fins 3 5 0)
  else if i.op = 21 then { q with at_ := i.n }
  else if i.op = 22 then (if ra = 0 then { q with at_ := i.n } else q)
  else if i.op = 23 then (if ra = 0 then q else { q with at_ := i.n })
  else if i.op = 24 then q.reg a (q.st (q.fr + i.n))
  else if i.op = 25 then { q with st := sset q.st (q.fr + i.n) ra }
  else if i.op = 26 then (if K.sl - (q.fr + q.sz) < (K.Fs i.n.toNat).frame then q.fins 2 7 0 else q.begin K i.n.toNat (q.fr + q.sz) q.at_ q.fr)
  else if i.op = 27 then (if q.cl.length = 1 then { q with cl := [] }.fins 1 0 0 else q.ret K)
  else if i.op = 28 then (if rb < 0 then q.fins 3 1 0 else if K.hl - q.hp.tk ≤ rb then q.fins 2 8 0 else { q with hp := q.hp.make rb }.reg a (q.hp.tk + 1))
  else if i.op = 29 then (if q.hp.lenB rb = true then q.reg a (q.hp.lenA rb) else q.fins 3 1 0)
  else if i.op = 30 then (if q.hp.lenB rb = false ∨ rb = 0 then q.fins 3 1 0 else if q.hp.has rb rc = true then q.reg a (q.hp.getA rb rc) else q.fins 3 2 0)
  else if i.op = 31 then (if q.hp.lenB rb = false ∨ rb = 0 then q.fins 3 1 0 else if q.hp.has rb rc = true then { q with hp := q.hp.set rb rc ra } else q.fins 3 2 0)
  else if i.op = 32 then (if ra = 0 then q.fins 2 i.n 0 else q)
  else if i.op = 33 then (if ra < 0 then q.fins 2 i.n 0 else q)
  else if i.op = 34 then (if ra < 0 ∨ rb ≤ ra then q.fins 2 i.n 0 else q)
  else if i.op = 35 then (if i.n = 6 then q.fins 2 6 ra else q.fins 2 i.n 0)
  else if i.op = 36 then (match q.inp with | [] => q.fins 2 5 0 | x :: r => { q with inp := r }.reg a x)
  else if i.op = 37 then { q with ev := q.ev ++ [(1, ra)] }
  else if ra = 0 ∨ ra = 1 then { q with ev := q.ev ++ [(2, ra)] } else q.fins 3 5 0
def rests (K : MK) (q : MQ) : Bool :=
  let i := K.X q.at_.toNat
  decide (1048576 ≤ q.ev.length) && (i.op == 37 || i.op == 38 && (q.regs i.a == 0 || q.regs i.a == 1))
def goes (K : MK) (q : MQ) : Bool := q.fin == 0 && !rests K q
def MQ.tick (q : MQ) : MQ := { q with steps := q.steps + 1, at_ := q.at_ + 1 }
def next (K : MK) (q : MQ) : MQ := act K q.tick (K.X q.at_.toNat)
def runN (K : MK) : Nat → MQ → MQ
  | 0, q => q
  | n + 1, q => if goes K q = true then runN K n (next K q) else q
/-- So many steps are made. -/
def madeN (K : MK) : Nat → MQ → Nat
  | 0, _ => 0
  | n + 1, q => if goes K q = true then madeN K n (next K q) + 1 else 0
theorem runN_rest (K : MK) (q : MQ) (h : goes K q = false) : ∀ n, runN K n q = q
  | 0 => rfl
  | n + 1 => by unfold runN; rw [if_neg (by simp [h])]
theorem runN_succ (K : MK) (n : Nat) (q : MQ) (h : goes K q = true) : runN K (n + 1) q = runN K n (next K q) := by rw [runN, if_pos h]
theorem runN_add (K : MK) (b : Nat) : ∀ (a : Nat) (q : MQ), runN K (a + b) q = runN K b (runN K a q)
  | 0, q => by rw [Nat.zero_add]; rfl
  | a + 1, q => by
    cases h : goes K q with
    | true => rw [Nat.add_right_comm, runN_succ K _ _ h, runN_succ K _ _ h, runN_add K b a]
    | false => rw [runN_rest K q h, runN_rest K q h, runN_rest K q h]
theorem madeN_le (K : MK) : ∀ (n : Nat) (q : MQ), madeN K n q ≤ n
  | 0, q => Nat.le_refl _
  | n + 1, q => by
    unfold madeN
    split
    · have := madeN_le K n (next K q); omega
    · omega
theorem ite_ind {P : MQ → Prop} {c : Prop} [Decidable c] {a b : MQ} (h1 : P a) (h2 : P b) : P (if c then a else b) := by split <;> assumption
theorem act_steps (K : MK) (q : MQ) (i : Ins) : (act K q i).steps = q.steps := by
  unfold act
  simp only []
  repeat' refine ite_ind (P := fun x => x.steps = q.steps) ?_ ?_
  all_goals first | rfl | (cases q.inp <;> rfl)
theorem next_steps (K : MK) (q : MQ) : (next K q).steps = q.steps + 1 := act_steps K _ _
theorem runN_steps (K : MK) : ∀ (n : Nat) (q : MQ), (runN K n q).steps = q.steps + madeN K n q
  | 0, q => by simp [runN, madeN]
  | n + 1, q => by
    unfold runN madeN
    split
    · rw [runN_steps K n, next_steps]; omega
    · simp
/-! ### what is always so -/
def InFn (K : MK) (f : Int) : Prop := 0 ≤ f ∧ f < (K.nf : Int)
def InF (K : MK) (f a : Int) : Prop := (K.Fs f.toNat).first ≤ a ∧ a < (K.Fs f.toNat).first + (K.Fs f.toNat).count
def Chain (K : MK) (st : Int → Int) : List Int → Int → Prop
  | [], _ => False
  | [f], fr => InFn K f ∧ fr = 0 ∧ (K.Fs f.toNat).frame ≤ K.sl
  | f :: g :: l, fr => InFn K f ∧ fr + (K.Fs f.toNat).frame ≤ K.sl ∧ InF K g (st fr) ∧ fr = st (fr + 1) + (K.Fs g.toNat).frame ∧ Chain K st (g :: l) (st (fr + 1))
structure RunOk (K : MK) (q : MQ) : Prop where
  chain : Chain K q.st q.cl.reverse q.fr
  sz : q.sz = (K.Fs (q.cl.getLastD 0).toNat).frame
  in_ : InF K (q.cl.getLastD 0) q.at_
structure Sound (K : MK) : Prop where
  code : CodeOk K.ni K.X K.nf K.Fs K.mn
  nis : (K.ni : Int) ≤ 9223372036854775807
  xn : ∀ k, k < K.ni → i64in (K.X k).n
  s0 : 0 ≤ K.sl
  s1 : K.sl ≤ 1099511627776
  h0 : 0 ≤ K.hl
  h1 : K.hl ≤ 1099511627776
structure Good (K : MK) (q : MQ) : Prop where
  regs : ∀ j, i64in (q.regs j)
  st : ∀ j, i64in (q.st j)
  inp : ∀ x ∈ q.inp, i64in x
  hv : ∀ j v, q.hp.wd j = some v → i64in v
  hok : q.hp.Ok
  htk : q.hp.tk ≤ K.hl
  ev : ∀ e ∈ q.ev, i64in e.2
  evn : q.ev.length ≤ 1048576
  run : q.fin = 0 → RunOk K q
theorem Chain.head {K : MK} {st : Int → Int} {f : Int} {l : List Int} {fr : Int} (h : Chain K st (f :: l) fr) : InFn K f := by
  cases l with
  | nil => exact h.1
  | cons g l => exact h.1
theorem Chain.top {K : MK} {st : Int → Int} {f : Int} {l : List Int} {fr : Int} (h : Chain K st (f :: l) fr) : fr + (K.Fs f.toNat).frame ≤ K.sl := by
  cases l with
  | nil => have := h.2; omega
  | cons g l => exact h.2.1
theorem Sound.one {K : MK} (s : Sound K) {f : Int} (h : InFn K f) : OneOk K.ni K.X K.nf K.Fs f.toNat := s.code.1 f.toNat (by unfold InFn at h; omega)
theorem Sound.frame2 {K : MK} (s : Sound K) {f : Int} (h : InFn K f) : 2 ≤ (K.Fs f.toNat).frame := (s.one h).2.2.2.2.2.1
theorem Chain.deep {K : MK} (s : Sound K) {st : Int → Int} : ∀ {l : List Int} {fr : Int}, Chain K st l fr → 0 ≤ fr ∧ 2 * ((l.length : Int) - 1) ≤ fr
  | [], fr, h => h.elim
  | [f], fr, h => by have := h.2.1; simp; omega
  | f :: g :: l, fr, h => by
    have h1 := Chain.deep s h.2.2.2.2
    have h2 := h.2.2.2.1
    have h3 := s.frame2 h.2.2.2.2.head
    simp only [List.length_cons] at h1 ⊢
    omega
theorem Chain.congr {K : MK} (s : Sound K) {st st' : Int → Int} : ∀ {l : List Int} {fr : Int}, Chain K st l fr → (∀ j, j ≤ fr + 1 → st' j = st j) → Chain K st' l fr
  | [], fr, h, _ => h.elim
  | [f], fr, h, _ => h
  | f :: g :: l, fr, h, he => by
    have h3 := s.frame2 h.2.2.2.2.head
    have h2 := h.2.2.2.1
    have e1 := he fr (by omega)
    have e2 := he (fr + 1) (by omega)
    refine ⟨h.1, h.2.1, by rw [e1]; exact h.2.2.1, by rw [e2]; exact h2, ?_⟩
    rw [e2]
    exact Chain.congr s h.2.2.2.2 fun j hj => he j (by omega)
end Go.Proofs.Ytkjfbojmkkdgoaa
