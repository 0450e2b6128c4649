/- R16Heap, as a plain thing: blocks, one behind the other. -/
import Derived.Test.YtkjfbojmkkdgoaaP3
import Derived.Test.YtkjfbojmkkdgoaaX20
set_option linter.unusedVariables false
set_option linter.unusedSimpArgs false
namespace Go.Proofs.Ytkjfbojmkkdgoaa
open Go.RowKit
def hpart (n : Int) : List Ins := [⟨1, 2, 0, 0, n⟩, ⟨28, 3, 2, 0, 0⟩]
def hrest : List Ins := [⟨37, 3, 0, 0, 0⟩, ⟨29, 4, 3, 0, 0⟩, ⟨37, 4, 0, 0, 0⟩]
def hword (n : Int) : List Ins := [⟨1, 5, 0, 0, n - 1⟩, ⟨30, 6, 3, 5, 0⟩, ⟨37, 6, 0, 0, 0⟩, ⟨31, 2, 3, 5, 0⟩, ⟨30, 6, 3, 5, 0⟩, ⟨37, 6, 0, 0, 0⟩]
def hall (n : Int) : List Ins := hpart n ++ hrest ++ (if 0 < n then hword n else [])
def hwant (next n : Int) : List Int := [next, n] ++ (if 0 < n then [0, n] else [])
structure HG where
  ins : List Ins
  want : List Int
  next : Int
  ends : Bool
def hstep (h : Int) (s : HG) (n : Int) : HG := if h < s.next + n then { s with ins := s.ins ++ hpart n, ends := true } else { ins := s.ins ++ hall n, want := s.want ++ hwant s.next n, next := s.next + n + 1, ends := false }
def hruns (h : Int) : List Int → HG → HG
  | [], s => s
  | n :: r, s => if s.ends = true then s else hruns h r (hstep h s n)
/-- These instructions stand at p. -/
def StandsAt (K : MK) (p : Nat) (l : List Ins) : Prop := ∀ j i, l[j]? = some i → K.X (p + j) = i
theorem StandsAt.left {K : MK} {p : Nat} {l r : List Ins} (h : StandsAt K p (l ++ r)) : StandsAt K p l := fun j i hj => h j i (by
  have : j < l.length := (List.getElem?_eq_some_iff.1 hj).1
  rw [List.getElem?_append_left this]; exact hj)
theorem StandsAt.right {K : MK} {p : Nat} {l r : List Ins} (h : StandsAt K p (l ++ r)) : StandsAt K (p + l.length) r := fun j i hj => by
  have := h (l.length + j) i (by rw [List.getElem?_append_right (by omega), Nat.add_sub_cancel_left]; exact hj)
  rwa [← Nat.add_assoc] at this
/-- Where a run stands. -/
structure HQ (q : MQ) (a : Nat) (s : Int) (e0 : List (Int × Int)) (t0 : Int) : Prop where
  fin : q.fin = 0
  at_ : q.at_ = a
  ev : q.ev = e0
  steps : q.steps = s
  tk : q.hp.tk = t0
  ok : q.hp.Ok
  fresh : ∀ j, t0 < j → q.hp.wd j = none
  cl : q.cl.length = 1
section
variable {K : MK} {q : MQ} {a : Nat} {s tk : Int} {ev : List (Int × Int)}
theorem HQ.go (h : HQ q a s ev tk) (hev : ev.length < 1000000) : goes K q = true := by
  unfold goes rests
  rw [h.fin, h.ev, show decide (1048576 ≤ ev.length) = false from decide_eq_false (by omega)]
  rfl
theorem HQ.nx (h : HQ q a s ev tk) {l : List Ins} (hs : StandsAt K a l) (j : Nat) {i : Ins} (hj : l[j]? = some i) {q' : MQ} (ha : q'.at_ = (a : Int) + j) : next K q' = act K q'.tick i := by
  unfold next
  rw [ha, show ((a : Int) + j).toNat = a + j by omega, hs j i hj]
theorem HQ.one (h : HQ q a s ev tk) (hev : ev.length < 1000000) (m : Nat) {q' : MQ} (e : next K q = q') : runN K (m + 1) q = runN K m q' := by rw [runN_succ _ _ _ (h.go hev), e]
/-- The block does not fit: the run ends. -/
theorem h_part_no (h : HQ q a s ev tk) (hev : ev.length < 1000000) (n : Int) (hs : StandsAt K a (hpart n)) (hn : 0 ≤ n) (hbig : K.hl < tk + 1 + n) (m : Nat) : ∃ q', runN K (m + 2) q = q' ∧ q'.fin = 2 ∧ q'.kind = 8 ∧ q'.steps = s + 2 ∧ q'.ev = ev ∧ q'.hp.tk = tk := by
  have e1 : next K q = q.tick.reg 2 n := h.nx hs 0 rfl (by rw [h.at_]; rfl)
  have h1 : HQ (q.tick.reg 2 n) (a + 1) (s + 1) ev tk := ⟨h.fin, by show q.at_ + 1 = _; rw [h.at_]; rfl, h.ev, by show q.steps + 1 = _; rw [h.steps], h.tk, h.ok, h.fresh, h.cl⟩
  have e2 : next K (q.tick.reg 2 n) = (q.tick.reg 2 n).tick.fins 2 8 0 := by
    rw [h.nx hs 1 rfl (q' := q.tick.reg 2 n) (by show q.at_ + 1 = _; rw [h.at_]; rfl)]
    show (if n < 0 then _ else if K.hl - q.hp.tk ≤ n then (q.tick.reg 2 n).tick.fins 2 8 0 else _) = _
    rw [if_neg (by omega), if_pos (by rw [h.tk]; omega)]
  refine ⟨_, rfl, ?_⟩
  rw [show m + 2 = m + 1 + 1 from rfl, h.one hev _ e1, h1.one hev _ e2, runN_rest _ _ rfl]
  exact ⟨rfl, rfl, by show q.steps + 1 + 1 = _; rw [h.steps]; omega, h.ev, h.tk⟩
/-- The block fits. -/
theorem h_part_yes (h : HQ q a s ev tk) (hev : ev.length + 2 < 1000000) (n : Int) (hs : StandsAt K a (hpart n ++ hrest)) (hn : 0 ≤ n) (hfit : tk + 1 + n ≤ K.hl) (hK : K.hl ≤ 1099511627776) : ∃ q', (∀ m, runN K (m + 5) q = runN K m q') ∧ HQ q' (a + 5) (s + 5) (ev ++ [(1, tk + 1), (1, n)]) (tk + 1 + n) ∧ q'.regs 2 = n ∧ q'.regs 3 = tk + 1 ∧ q'.hp.sz (tk + 1) = some n ∧ (∀ j, tk < j → q'.hp.wd j = none) := by
  have htk : 0 ≤ tk := h.tk ▸ h.ok.1
  have hf : fitsB q.hp.tk n = true := (fitsB_iff _ _).2 ⟨hn, by rw [h.tk]; omega⟩
  have e1 : next K q = q.tick.reg 2 n := h.nx hs 0 rfl (by rw [h.at_]; rfl)
  have h1 : HQ (q.tick.reg 2 n) (a + 1) (s + 1) ev tk := ⟨h.fin, by show q.at_ + 1 = _; rw [h.at_]; rfl, h.ev, by show q.steps + 1 = _; rw [h.steps], h.tk, h.ok, h.fresh, h.cl⟩
  generalize hq1 : q.tick.reg 2 n = q1 at *
  have r12 : q1.regs 2 = n := by rw [← hq1]; rfl
  have hf1 : fitsB q1.hp.tk n = true := by rw [← hq1]; exact hf
  have e2 : next K q1 = { q1.tick with hp := q1.hp.make n }.reg 3 (tk + 1) := by
    rw [h.nx hs 1 rfl (q' := q1) (by rw [h1.at_]; rfl)]
    show (if q1.regs 2 < 0 then q1.tick.fins 3 1 0 else if K.hl - q1.hp.tk ≤ q1.regs 2 then q1.tick.fins 2 8 0 else { q1.tick with hp := q1.hp.make (q1.regs 2) }.reg 3 (q1.hp.tk + 1)) = _
    rw [r12, if_neg (by omega), if_neg (by rw [h1.tk]; omega), h1.tk]
  have mk : q1.hp.make n = ⟨upd q1.hp.sz (tk + 1) n, q1.hp.wd, tk + n + 1⟩ := by unfold QH.make; rw [if_pos hf1, h1.tk]
  have ok2 := h1.ok.make n
  rw [mk] at e2 ok2
  have h2 : HQ ({ q1.tick with hp := ⟨upd q1.hp.sz (tk + 1) n, q1.hp.wd, tk + n + 1⟩ }.reg 3 (tk + 1)) (a + 2) (s + 2) ev (tk + 1 + n) := ⟨h1.fin, by show q1.at_ + 1 = _; rw [h1.at_]; rfl, h1.ev, by show q1.steps + 1 = _; rw [h1.steps]; omega, by show tk + n + 1 = _; omega, ok2, fun j hj => h1.fresh j (by omega), h1.cl⟩
  have s2 : ({ q1.tick with hp := ⟨upd q1.hp.sz (tk + 1) n, q1.hp.wd, tk + n + 1⟩ }.reg 3 (tk + 1)).hp.sz (tk + 1) = some n := by show upd q1.hp.sz (tk + 1) n (tk + 1) = _; simp [upd]
  have w2 : ∀ j, tk < j → ({ q1.tick with hp := ⟨upd q1.hp.sz (tk + 1) n, q1.hp.wd, tk + n + 1⟩ }.reg 3 (tk + 1)).hp.wd j = none := h1.fresh
  have r2 : ({ q1.tick with hp := ⟨upd q1.hp.sz (tk + 1) n, q1.hp.wd, tk + n + 1⟩ }.reg 3 (tk + 1)).regs 2 = n := r12
  have r3 : ({ q1.tick with hp := ⟨upd q1.hp.sz (tk + 1) n, q1.hp.wd, tk + n + 1⟩ }.reg 3 (tk + 1)).regs 3 = tk + 1 := rfl
  generalize { q1.tick with hp := ⟨upd q1.hp.sz (tk + 1) n, q1.hp.wd, tk + n + 1⟩ }.reg 3 (tk + 1) = q2 at *
  have e3 : next K q2 = { q2.tick with ev := q2.ev ++ [(1, q2.regs 3)] } := by
    rw [h.nx hs 2 rfl (q' := q2) (by rw [h2.at_]; rfl)]; rfl
  rw [h2.ev, r3] at e3
  have h3 : HQ { q2.tick with ev := ev ++ [(1, tk + 1)] } (a + 3) (s + 3) (ev ++ [(1, tk + 1)]) (tk + 1 + n) := ⟨h2.fin, by show q2.at_ + 1 = _; rw [h2.at_]; rfl, rfl, by show q2.steps + 1 = _; rw [h2.steps]; omega, h2.tk, h2.ok, h2.fresh, h2.cl⟩
  have l3 : ({ q2.tick with ev := ev ++ [(1, tk + 1)] } : MQ).hp.lenB (tk + 1) = true := by unfold QH.lenB; rw [if_neg (by omega)]; show (q2.hp.sz (tk + 1)).isSome = true; rw [s2]; rfl
  have m3 : ({ q2.tick with ev := ev ++ [(1, tk + 1)] } : MQ).hp.lenA (tk + 1) = n := by unfold QH.lenA; rw [if_neg (by omega)]; show (q2.hp.sz (tk + 1)).getD 0 = n; rw [s2]; rfl
  have s3 : ({ q2.tick with ev := ev ++ [(1, tk + 1)] } : MQ).hp.sz (tk + 1) = some n := s2
  have w3 : ∀ j, tk < j → ({ q2.tick with ev := ev ++ [(1, tk + 1)] } : MQ).hp.wd j = none := w2
  have r32 : ({ q2.tick with ev := ev ++ [(1, tk + 1)] } : MQ).regs 2 = n := r2
  have r33 : ({ q2.tick with ev := ev ++ [(1, tk + 1)] } : MQ).regs 3 = tk + 1 := r3
  generalize ({ q2.tick with ev := ev ++ [(1, tk + 1)] } : MQ) = q3 at *
  have e4 : next K q3 = q3.tick.reg 4 n := by
    rw [h.nx hs 3 rfl (q' := q3) (by rw [h3.at_]; rfl)]
    show (if q3.hp.lenB (q3.regs 3) = true then q3.tick.reg 4 (q3.hp.lenA (q3.regs 3)) else q3.tick.fins 3 1 0) = _
    rw [r33, if_pos l3, m3]
  have h4 : HQ (q3.tick.reg 4 n) (a + 4) (s + 4) (ev ++ [(1, tk + 1)]) (tk + 1 + n) := ⟨h3.fin, by show q3.at_ + 1 = _; rw [h3.at_]; rfl, h3.ev, by show q3.steps + 1 = _; rw [h3.steps]; omega, h3.tk, h3.ok, h3.fresh, h3.cl⟩
  have r44 : (q3.tick.reg 4 n).regs 4 = n := rfl
  have r42 : (q3.tick.reg 4 n).regs 2 = n := r32
  have r43 : (q3.tick.reg 4 n).regs 3 = tk + 1 := r33
  have s4 : (q3.tick.reg 4 n).hp.sz (tk + 1) = some n := s3
  have w4 : ∀ j, tk < j → (q3.tick.reg 4 n).hp.wd j = none := w3
  generalize q3.tick.reg 4 n = q4 at *
  have e5 : next K q4 = { q4.tick with ev := q4.ev ++ [(1, q4.regs 4)] } := by
    rw [h.nx hs 4 rfl (q' := q4) (by rw [h4.at_]; rfl)]; rfl
  rw [h4.ev, r44] at e5
  refine ⟨{ q4.tick with ev := ev ++ [(1, tk + 1)] ++ [(1, n)] }, fun m => ?_, ⟨h4.fin, by show q4.at_ + 1 = _; rw [h4.at_]; rfl, by show ev ++ [(1, tk + 1)] ++ [(1, n)] = _; simp, by show q4.steps + 1 = _; rw [h4.steps]; omega, h4.tk, h4.ok, h4.fresh, h4.cl⟩, r42, r43, s4, w4⟩
  have l1 : (ev ++ [(1, tk + 1)]).length < 1000000 := by simp; omega
  rw [show m + 5 = m + 1 + 1 + 1 + 1 + 1 from rfl, h.one (by omega) _ e1, h1.one (by omega) _ e2, h2.one (by omega) _ e3, h3.one l1 _ e4, h4.one l1 _ e5]
/-- Its last word: 0, then what was put there. -/
theorem h_word {n : Int} (h : HQ q a s ev (tk + 1 + n)) (htk : 0 ≤ tk) (hev : ev.length + 2 < 1000000) (hs : StandsAt K a (hword n)) (hn : 0 < n) (r2 : q.regs 2 = n) (r3 : q.regs 3 = tk + 1) (hz : q.hp.sz (tk + 1) = some n) (hw : ∀ j, tk < j → q.hp.wd j = none) :
    ∃ q', (∀ m, runN K (m + 6) q = runN K m q') ∧ HQ q' (a + 6) (s + 6) (ev ++ [(1, 0), (1, n)]) (tk + 1 + n) := by
  have hB : ∀ hp : QH, hp.sz (tk + 1) = some n → hp.lenB (tk + 1) = true ∧ hp.has (tk + 1) (n - 1) = true := fun hp e => by
    constructor
    · unfold QH.lenB; rw [if_neg (by omega), e]; rfl
    · unfold QH.has; rw [e]; exact decide_eq_true ⟨by omega, by omega⟩
  have e1 : next K q = q.tick.reg 5 (n - 1) := h.nx hs 0 rfl (by rw [h.at_]; rfl)
  have h1 : HQ (q.tick.reg 5 (n - 1)) (a + 1) (s + 1) ev (tk + 1 + n) := ⟨h.fin, by show q.at_ + 1 = _; rw [h.at_]; rfl, h.ev, by show q.steps + 1 = _; rw [h.steps], h.tk, h.ok, h.fresh, h.cl⟩
  have a2 : (q.tick.reg 5 (n - 1)).regs 2 = n := r2
  have a3 : (q.tick.reg 5 (n - 1)).regs 3 = tk + 1 := r3
  have a5 : (q.tick.reg 5 (n - 1)).regs 5 = n - 1 := rfl
  have az : (q.tick.reg 5 (n - 1)).hp.sz (tk + 1) = some n := hz
  have aw : ∀ j, tk < j → (q.tick.reg 5 (n - 1)).hp.wd j = none := hw
  generalize q.tick.reg 5 (n - 1) = q1 at *
  have g1 : q1.hp.getA (tk + 1) (n - 1) = 0 := by unfold QH.getA; rw [if_pos (hB _ az).2, aw _ (by omega)]; rfl
  have ldx : ∀ (p : MQ) (j : Nat), (hword n)[j]? = some ⟨30, 6, 3, 5, 0⟩ → p.at_ = (a : Int) + j → p.regs 3 = tk + 1 → p.regs 5 = n - 1 → p.hp.sz (tk + 1) = some n → next K p = p.tick.reg 6 (p.hp.getA (tk + 1) (n - 1)) := fun p j hj hp p3 p5 pz => by
    rw [h.nx hs j hj (q' := p) hp]
    show (if p.hp.lenB (p.regs 3) = false ∨ p.regs 3 = 0 then p.tick.fins 3 1 0 else if p.hp.has (p.regs 3) (p.regs 5) = true then p.tick.reg 6 (p.hp.getA (p.regs 3) (p.regs 5)) else p.tick.fins 3 2 0) = _
    rw [p3, p5, if_neg (by rw [(hB _ pz).1]; intro e; rcases e with e | e; cases e; omega), if_pos (hB _ pz).2]
  have e2 := ldx q1 1 rfl (by rw [h1.at_]; rfl) a3 a5 az
  rw [g1] at e2
  have h2 : HQ (q1.tick.reg 6 0) (a + 2) (s + 2) ev (tk + 1 + n) := ⟨h1.fin, by show q1.at_ + 1 = _; rw [h1.at_]; rfl, h1.ev, by show q1.steps + 1 = _; rw [h1.steps]; omega, h1.tk, h1.ok, h1.fresh, h1.cl⟩
  have b2 : (q1.tick.reg 6 0).regs 2 = n := a2
  have b3 : (q1.tick.reg 6 0).regs 3 = tk + 1 := a3
  have b5 : (q1.tick.reg 6 0).regs 5 = n - 1 := a5
  have b6 : (q1.tick.reg 6 0).regs 6 = 0 := rfl
  have bz : (q1.tick.reg 6 0).hp.sz (tk + 1) = some n := az
  generalize q1.tick.reg 6 0 = q2 at *
  have e3 : next K q2 = { q2.tick with ev := q2.ev ++ [(1, q2.regs 6)] } := by
    rw [h.nx hs 2 rfl (q' := q2) (by rw [h2.at_]; rfl)]; rfl
  rw [h2.ev, b6] at e3
  have h3 : HQ { q2.tick with ev := ev ++ [(1, 0)] } (a + 3) (s + 3) (ev ++ [(1, 0)]) (tk + 1 + n) := ⟨h2.fin, by show q2.at_ + 1 = _; rw [h2.at_]; rfl, rfl, by show q2.steps + 1 = _; rw [h2.steps]; omega, h2.tk, h2.ok, h2.fresh, h2.cl⟩
  have c2 : ({ q2.tick with ev := ev ++ [(1, 0)] } : MQ).regs 2 = n := b2
  have c3 : ({ q2.tick with ev := ev ++ [(1, 0)] } : MQ).regs 3 = tk + 1 := b3
  have c5 : ({ q2.tick with ev := ev ++ [(1, 0)] } : MQ).regs 5 = n - 1 := b5
  have cz : ({ q2.tick with ev := ev ++ [(1, 0)] } : MQ).hp.sz (tk + 1) = some n := bz
  generalize ({ q2.tick with ev := ev ++ [(1, 0)] } : MQ) = q3 at *
  have st : q3.hp.set (tk + 1) (n - 1) n = ⟨q3.hp.sz, upd q3.hp.wd (tk + 1 + 1 + (n - 1)) n, q3.hp.tk⟩ := by unfold QH.set; rw [if_pos (hB _ cz).2]
  have e4 : next K q3 = { q3.tick with hp := q3.hp.set (tk + 1) (n - 1) n } := by
    rw [h.nx hs 3 rfl (q' := q3) (by rw [h3.at_]; rfl)]
    show (if q3.hp.lenB (q3.regs 3) = false ∨ q3.regs 3 = 0 then q3.tick.fins 3 1 0 else if q3.hp.has (q3.regs 3) (q3.regs 5) = true then { q3.tick with hp := q3.hp.set (q3.regs 3) (q3.regs 5) (q3.regs 2) } else q3.tick.fins 3 2 0) = _
    rw [c3, c5, c2, if_neg (by rw [(hB _ cz).1]; intro e; rcases e with e | e; cases e; omega), if_pos (hB _ cz).2]
  have ok4 := h3.ok.set (tk + 1) (n - 1) n
  rw [st] at e4 ok4
  have h4 : HQ { q3.tick with hp := ⟨q3.hp.sz, upd q3.hp.wd (tk + 1 + 1 + (n - 1)) n, q3.hp.tk⟩ } (a + 4) (s + 4) (ev ++ [(1, 0)]) (tk + 1 + n) := ⟨h3.fin, by show q3.at_ + 1 = _; rw [h3.at_]; rfl, h3.ev, by show q3.steps + 1 = _; rw [h3.steps]; omega, h3.tk, ok4, fun j hj => by
    show upd q3.hp.wd (tk + 1 + 1 + (n - 1)) n j = none
    unfold upd
    rw [if_neg (by omega)]
    exact h3.fresh j hj, h3.cl⟩
  have d3 : ({ q3.tick with hp := ⟨q3.hp.sz, upd q3.hp.wd (tk + 1 + 1 + (n - 1)) n, q3.hp.tk⟩ } : MQ).regs 3 = tk + 1 := c3
  have d5 : ({ q3.tick with hp := ⟨q3.hp.sz, upd q3.hp.wd (tk + 1 + 1 + (n - 1)) n, q3.hp.tk⟩ } : MQ).regs 5 = n - 1 := c5
  have dz : ({ q3.tick with hp := ⟨q3.hp.sz, upd q3.hp.wd (tk + 1 + 1 + (n - 1)) n, q3.hp.tk⟩ } : MQ).hp.sz (tk + 1) = some n := cz
  have dg : ({ q3.tick with hp := ⟨q3.hp.sz, upd q3.hp.wd (tk + 1 + 1 + (n - 1)) n, q3.hp.tk⟩ } : MQ).hp.getA (tk + 1) (n - 1) = n := by
    unfold QH.getA
    rw [if_pos (hB _ dz).2]
    show (upd q3.hp.wd (tk + 1 + 1 + (n - 1)) n (tk + 1 + 1 + (n - 1))).getD 0 = n
    simp [upd]
  generalize ({ q3.tick with hp := ⟨q3.hp.sz, upd q3.hp.wd (tk + 1 + 1 + (n - 1)) n, q3.hp.tk⟩ } : MQ) = q4 at *
  have e5 := ldx q4 4 rfl (by rw [h4.at_]; rfl) d3 d5 dz
  rw [dg] at e5
  have h5 : HQ (q4.tick.reg 6 n) (a + 5) (s + 5) (ev ++ [(1, 0)]) (tk + 1 + n) := ⟨h4.fin, by show q4.at_ + 1 = _; rw [h4.at_]; rfl, h4.ev, by show q4.steps + 1 = _; rw [h4.steps]; omega, h4.tk, h4.ok, h4.fresh, h4.cl⟩
  have f6 : (q4.tick.reg 6 n).regs 6 = n := rfl
  generalize q4.tick.reg 6 n = q5 at *
  have e6 : next K q5 = { q5.tick with ev := q5.ev ++ [(1, q5.regs 6)] } := by
    rw [h.nx hs 5 rfl (q' := q5) (by rw [h5.at_]; rfl)]; rfl
  rw [h5.ev, f6] at e6
  refine ⟨{ q5.tick with ev := ev ++ [(1, 0)] ++ [(1, n)] }, fun m => ?_, ⟨h5.fin, by show q5.at_ + 1 = _; rw [h5.at_]; rfl, by show ev ++ [(1, 0)] ++ [(1, n)] = _; simp, by show q5.steps + 1 = _; rw [h5.steps]; omega, h5.tk, h5.ok, h5.fresh, h5.cl⟩⟩
  have l1 : (ev ++ [((1 : Int), (0 : Int))]).length < 1000000 := by simp; omega
  rw [show m + 6 = m + 1 + 1 + 1 + 1 + 1 + 1 from rfl, h.one (by omega) _ e1, h1.one (by omega) _ e2, h2.one (by omega) _ e3, h3.one l1 _ e4, h4.one l1 _ e5, h5.one l1 _ e6]
end
theorem goes_fin {K : MK} {q : MQ} (h : ¬ q.fin = 0) : goes K q = false := by unfold goes; rw [show (q.fin == 0) = false from beq_eq_false_iff_ne.2 h, Bool.false_and]
def evOf (l : List Int) : List (Int × Int) := l.map fun x => (1, x)
theorem evOf_append (a b : List Int) : evOf (a ++ b) = evOf a ++ evOf b := List.map_append
theorem evOf_length (a : List Int) : (evOf a).length = a.length := List.length_map ..
theorem hruns_ends (h : Int) : ∀ (l : List Int) (s : HG), s.ends = true → hruns h l s = s
  | [], s, _ => rfl
  | n :: r, s, e => by unfold hruns; rw [if_pos e]
theorem hstep_ins (h : Int) (s : HG) (n : Int) : ∃ t, (hstep h s n).ins = s.ins ++ t := by
  unfold hstep
  split
  · exact ⟨_, rfl⟩
  · exact ⟨_, rfl⟩
theorem hruns_ins (h : Int) : ∀ (l : List Int) (s : HG), ∃ t, (hruns h l s).ins = s.ins ++ t
  | [], s => ⟨[], (List.append_nil _).symm⟩
  | n :: r, s => by
    unfold hruns
    split
    · exact ⟨[], (List.append_nil _).symm⟩
    · obtain ⟨t1, e1⟩ := hstep_ins h s n
      obtain ⟨t2, e2⟩ := hruns_ins h r (hstep h s n)
      exact ⟨t1 ++ t2, by rw [e2, e1, List.append_assoc]⟩
def HEnd (q' : MQ) (s : HG) : Prop := q'.ev = evOf s.want ∧ q'.hp.tk = s.next - 1 ∧ ((s.ends = true ∧ q'.fin = 2 ∧ q'.kind = 8 ∧ q'.steps = s.ins.length) ∨ (s.ends = false ∧ q'.fin = 1 ∧ q'.steps = (s.ins.length : Int) + 1))
theorem hall_length (n : Int) : (hall n).length = 5 ∨ (hall n).length = 11 := by
  unfold hall
  split
  · right; rfl
  · left; rfl
theorem heap_run {K : MK} (h1 : K.hl ≤ 1099511627776) : ∀ (ns : List Int) (s : HG) (q : MQ), (∀ n ∈ ns, 0 ≤ n) → s.ends = false → StandsAt K 0 ((hruns K.hl ns s).ins ++ [⟨27, 0, 0, 0, 0⟩]) → HQ q s.ins.length s.ins.length (evOf s.want) (s.next - 1) → s.want.length + 4 * ns.length < 900000 →
    ∃ q', (∀ m, runN K ((hruns K.hl ns s).ins.length - s.ins.length + 2 + m) q = q') ∧ HEnd q' (hruns K.hl ns s)
  | [], s, q, hn, he, hs, hq, hw => by
    have hr := hs.right
    rw [show hruns K.hl [] s = s from rfl] at hr ⊢
    rw [Nat.zero_add] at hr
    have e : next K q = { q.tick with cl := [] }.fins 1 0 0 := by
      rw [hq.nx hr 0 rfl (q' := q) (by rw [hq.at_]; omega)]
      show (if q.cl.length = 1 then { q.tick with cl := [] }.fins 1 0 0 else _) = _
      rw [if_pos hq.cl]
    refine ⟨{ q.tick with cl := [] }.fins 1 0 0, fun m => ?_, hq.ev, hq.tk, .inr ⟨he, rfl, ?_⟩⟩
    · rw [show s.ins.length - s.ins.length + 2 + m = (m + 1) + 1 by omega, hq.one (by rw [evOf_length]; omega) _ e, runN_rest _ _ rfl]
    · show q.steps + 1 = _
      rw [hq.steps]
  | n :: r, s, q, hn, he, hs, hq, hw => by
    have hn0 := hn n (List.mem_cons_self ..)
    have e1 : hruns K.hl (n :: r) s = hruns K.hl r (hstep K.hl s n) := by
      show (if s.ends = true then s else _) = _
      rw [if_neg (by rw [he]; decide)]
    rw [e1] at hs ⊢
    simp only [List.length_cons] at hw
    by_cases hb : K.hl < s.next + n
    · have e2 : hstep K.hl s n = { s with ins := s.ins ++ hpart n, ends := true } := if_pos hb
      rw [e2, hruns_ends _ _ _ rfl] at hs ⊢
      have hr : StandsAt K (0 + s.ins.length) (hpart n) := hs.left.right
      rw [Nat.zero_add] at hr
      obtain ⟨q', -, -⟩ := h_part_no hq (by rw [evOf_length]; omega) n hr hn0 (by omega) 0
      have key := fun m => h_part_no hq (by rw [evOf_length]; omega) n hr hn0 (by omega) m
      obtain ⟨q', k0, k1, k2, k3, k4, k5⟩ := key 0
      have hl : (s.ins ++ hpart n).length = s.ins.length + 2 := by rw [List.length_append]; rfl
      refine ⟨q', fun m => ?_, k4, k5, .inl ⟨rfl, k1, k2, by rw [k3]; show _ = ((s.ins ++ hpart n).length : Int); rw [hl]; omega⟩⟩
      show runN K ((s.ins ++ hpart n).length - s.ins.length + 2 + m) q = q'
      rw [hl, show s.ins.length + 2 - s.ins.length + 2 + m = (0 + 2) + (2 + m) by omega, runN_add, k0, runN_rest]
      exact goes_fin (by rw [k1]; decide)
    · have e2 : hstep K.hl s n = { ins := s.ins ++ hall n, want := s.want ++ hwant s.next n, next := s.next + n + 1, ends := false } := if_neg hb
      obtain ⟨t, ht⟩ := hruns_ins K.hl r (hstep K.hl s n)
      have hs2 : StandsAt K (0 + s.ins.length) (hall n) := by
        have := hs
        rw [ht, e2] at this
        exact this.left.left.right
      rw [Nat.zero_add] at hs2
      obtain ⟨q1, r1, h2, g2, g3, gz, gw⟩ := h_part_yes hq (by rw [evOf_length]; omega) n hs2.left hn0 (by omega) h1
      have hst : ∃ q', (∀ m, runN K (m + (hall n).length) q = runN K m q') ∧ HQ q' (hstep K.hl s n).ins.length (hstep K.hl s n).ins.length (evOf (hstep K.hl s n).want) ((hstep K.hl s n).next - 1) := by
        rw [e2]
        by_cases hp : 0 < n
        · have hwl : (hall n).length = 11 := by unfold hall; rw [if_pos hp]; rfl
          have hs3 : StandsAt K (s.ins.length + 5) (hword n) := by
            have := hs2
            unfold hall at this
            rw [if_pos hp] at this
            exact this.right
          obtain ⟨q2, r2, h3⟩ := h_word h2 (by have := hq.tk ▸ hq.ok.1; omega) (by rw [List.length_append, evOf_length]; simp; omega) hs3 hp g2 g3 gz gw
          refine ⟨q2, fun m => ?_, ?_⟩
          · rw [hwl, show m + 11 = (m + 6) + 5 by omega, r1, r2]
          · have el : (s.ins ++ hall n).length = s.ins.length + 11 := by rw [List.length_append, hwl]
            show HQ q2 (s.ins ++ hall n).length ((s.ins ++ hall n).length : Nat) (evOf (s.want ++ hwant s.next n)) (s.next + n + 1 - 1)
            rw [el, evOf_append]
            unfold hwant
            rw [if_pos hp]
            have := h3
            rw [show s.next - 1 + 1 + n = s.next + n + 1 - 1 by omega, show s.next - 1 + 1 = s.next by omega, List.append_assoc, show (s.ins.length : Int) + 5 + 6 = ((s.ins.length + 11 : Nat) : Int) by omega] at this
            exact this
        · have hn00 : n = 0 := by omega
          have hwl : (hall n).length = 5 := by unfold hall; rw [if_neg hp]; rfl
          refine ⟨q1, fun m => ?_, ?_⟩
          · rw [hwl, r1]
          · have el : (s.ins ++ hall n).length = s.ins.length + 5 := by rw [List.length_append, hwl]
            show HQ q1 (s.ins ++ hall n).length ((s.ins ++ hall n).length : Nat) (evOf (s.want ++ hwant s.next n)) (s.next + n + 1 - 1)
            rw [el, evOf_append]
            unfold hwant
            rw [if_neg hp]
            have := h2
            rw [show s.next - 1 + 1 + n = s.next + n + 1 - 1 by omega, show s.next - 1 + 1 = s.next by omega, show (s.ins.length : Int) + 5 = ((s.ins.length + 5 : Nat) : Int) by omega] at this
            exact this
      obtain ⟨q2, r2, h3⟩ := hst
      have hwl : (hstep K.hl s n).want.length ≤ s.want.length + 4 := by
        rw [e2]
        show (s.want ++ hwant s.next n).length ≤ _
        unfold hwant
        split <;> simp
      have hee : (hstep K.hl s n).ends = false := by rw [e2]
      obtain ⟨q', r3, h4⟩ := heap_run h1 r (hstep K.hl s n) q2 (fun x hx => hn x (List.mem_cons_of_mem _ hx)) hee hs h3 (by omega)
      refine ⟨q', fun m => ?_, h4⟩
      have el : (hstep K.hl s n).ins.length = s.ins.length + (hall n).length := by rw [e2]; exact List.length_append
      have el2 : (hruns K.hl r (hstep K.hl s n)).ins.length = (hstep K.hl s n).ins.length + t.length := by rw [ht, List.length_append]
      rw [show (hruns K.hl r (hstep K.hl s n)).ins.length - s.ins.length + 2 + m = ((hruns K.hl r (hstep K.hl s n)).ins.length - (hstep K.hl s n).ins.length + 2 + m) + (hall n).length by omega, r2, r3]
end Go.Proofs.Ytkjfbojmkkdgoaa
