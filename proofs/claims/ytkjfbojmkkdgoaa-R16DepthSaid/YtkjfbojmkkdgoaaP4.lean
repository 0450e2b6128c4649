/- R16Depth, as a plain thing: a function that calls itself. -/
import Derived.Test.YtkjfbojmkkdgoaaP3
import Derived.Test.YtkjfbojmkkdgoaaX20
set_option linter.unusedVariables false
set_option linter.unusedSimpArgs false
namespace Go.Proofs.Ytkjfbojmkkdgoaa
open Go.RowKit
def depthL (n frame : Int) : List Ins := [⟨1, 5, 0, 0, 1⟩, ⟨1, 0, 0, 0, n⟩, ⟨26, 0, 0, 0, 1⟩, ⟨37, 0, 0, 0, 0⟩, ⟨27, 0, 0, 0, 0⟩, ⟨25, 0, 0, 0, frame - 1⟩, ⟨22, 0, 0, 0, 11⟩, ⟨4, 0, 0, 5, 0⟩, ⟨26, 0, 0, 0, 1⟩, ⟨24, 1, 0, 0, frame - 1⟩, ⟨3, 0, 0, 1, 0⟩, ⟨27, 0, 0, 0, 0⟩]
def depthF (frame : Int) : Nat → Fn := fun i => if i = 0 then ⟨⟨#[109, 97, 105, 110]⟩, 2, 0, 5, 0⟩ else if i = 1 then ⟨⟨#[102]⟩, frame, 5, 7, 1⟩ else ⟨⟨#[]⟩, 0, 0, 0, 0⟩
def depthX (n frame : Int) : Nat → Ins := fun i => (depthL n frame).getD i ⟨0, 0, 0, 0, 0⟩
def depthK (n frame sl : Int) : MK := { ni := 12, X := depthX n frame, nf := 2, Fs := depthF frame, mn := 0, sl := sl, hl := 0 }
/-- Where a run stands. -/
structure DQ (q : MQ) (a fr sz r0 d : Int) (cl : List Int) : Prop where
  fin : q.fin = 0
  at_ : q.at_ = a
  fr_ : q.fr = fr
  sz_ : q.sz = sz
  r0 : q.regs 0 = r0
  r5 : q.regs 5 = 1
  cl_ : q.cl = cl
  ev : q.ev = []
  dp : q.depth = d
  tk : q.hp.tk = 0
theorem go_of {K : MK} {q : MQ} (hf : q.fin = 0) (he : q.ev = []) : goes K q = true := by
  unfold goes rests
  rw [hf, he]
  rfl
section
variable {n frame sl : Int} {q : MQ} {a fr sz r0 d : Int} {cl : List Int}
theorem nx_sts (h : DQ q 5 fr sz r0 d cl) : ∃ q', next (depthK n frame sl) q = q' ∧ DQ q' 6 fr sz r0 d cl ∧ q'.st = sset q.st (fr + (frame - 1)) r0 := by
  have hX : (depthK n frame sl).X q.at_.toNat = ⟨25, 0, 0, 0, frame - 1⟩ := by rw [h.at_]; rfl
  refine ⟨{ q.tick with st := sset q.st (q.fr + (frame - 1)) (q.regs 0) }, by unfold next; rw [hX]; rfl, ⟨h.fin, by show q.at_ + 1 = 6; rw [h.at_]; rfl, h.fr_, h.sz_, h.r0, h.r5, h.cl_, h.ev, h.dp, h.tk⟩, ?_⟩
  show sset q.st (q.fr + (frame - 1)) (q.regs 0) = _
  rw [h.fr_, h.r0]
theorem nx_bz0 (h : DQ q 6 fr sz 0 d cl) : ∃ q', next (depthK n frame sl) q = q' ∧ DQ q' 11 fr sz 0 d cl ∧ q'.st = q.st := by
  have hX : (depthK n frame sl).X q.at_.toNat = ⟨22, 0, 0, 0, 11⟩ := by rw [h.at_]; rfl
  refine ⟨{ q.tick with at_ := 11 }, ?_, ⟨h.fin, rfl, h.fr_, h.sz_, h.r0, h.r5, h.cl_, h.ev, h.dp, h.tk⟩, rfl⟩
  unfold next
  rw [hX]
  show (if q.regs 0 = 0 then { q.tick with at_ := 11 } else q.tick) = _
  rw [if_pos h.r0]
theorem nx_bz1 (h : DQ q 6 fr sz r0 d cl) (hr : r0 ≠ 0) : ∃ q', next (depthK n frame sl) q = q' ∧ DQ q' 7 fr sz r0 d cl ∧ q'.st = q.st := by
  have hX : (depthK n frame sl).X q.at_.toNat = ⟨22, 0, 0, 0, 11⟩ := by rw [h.at_]; rfl
  refine ⟨q.tick, ?_, ⟨h.fin, by show q.at_ + 1 = 7; rw [h.at_]; rfl, h.fr_, h.sz_, h.r0, h.r5, h.cl_, h.ev, h.dp, h.tk⟩, rfl⟩
  unfold next
  rw [hX]
  show (if q.regs 0 = 0 then { q.tick with at_ := 11 } else q.tick) = _
  rw [if_neg (by rw [h.r0]; exact hr)]
theorem nx_sub (h : DQ q 7 fr sz r0 d cl) (h0 : 0 ≤ r0) (h1 : r0 ≤ 100000) : ∃ q', next (depthK n frame sl) q = q' ∧ DQ q' 8 fr sz (r0 - 1) d cl ∧ q'.st = q.st := by
  have hX : (depthK n frame sl).X q.at_.toNat = ⟨4, 0, 0, 5, 0⟩ := by rw [h.at_]; rfl
  refine ⟨q.tick.reg 0 (wsub (q.regs 0) (q.regs 5)), by unfold next; rw [hX]; rfl, ⟨h.fin, by show q.at_ + 1 = 8; rw [h.at_]; rfl, h.fr_, h.sz_, ?_, h.r5, h.cl_, h.ev, h.dp, h.tk⟩, rfl⟩
  show wsub (q.regs 0) (q.regs 5) = _
  rw [h.r0, h.r5]
  unfold wsub
  first | exact wrap64_eq (by omega) (by omega) | (unfold wrap64; omega)
theorem nx_call (h : DQ q 8 fr sz r0 d cl) (hs : ¬ sl - (fr + sz) < frame) : ∃ q', next (depthK n frame sl) q = q' ∧ DQ q' 5 (fr + sz) frame r0 (max d ((cl.length : Int) + 1)) (cl ++ [1]) ∧ q'.st = sset (sset q.st (fr + sz) 9) (fr + sz + 1) fr := by
  have hX : (depthK n frame sl).X q.at_.toNat = ⟨26, 0, 0, 0, 1⟩ := by rw [h.at_]; rfl
  have e : next (depthK n frame sl) q = q.tick.begin (depthK n frame sl) 1 (q.fr + q.sz) (q.at_ + 1) q.fr := by
    unfold next
    rw [hX]
    show (if sl - (q.fr + q.sz) < frame then q.tick.fins 2 7 0 else q.tick.begin (depthK n frame sl) 1 (q.fr + q.sz) (q.at_ + 1) q.fr) = _
    rw [h.fr_, h.sz_, if_neg hs]
  refine ⟨_, e, ⟨h.fin, rfl, by show q.fr + q.sz = _; rw [h.fr_, h.sz_], rfl, h.r0, h.r5, by show q.cl ++ [1] = _; rw [h.cl_], h.ev, by show max q.depth ((q.cl.length : Int) + 1) = _; rw [h.dp, h.cl_], h.tk⟩, ?_⟩
  show sset (sset q.st (q.fr + q.sz) (q.at_ + 1)) (q.fr + q.sz + 1) q.fr = _
  rw [h.fr_, h.sz_, h.at_]
  rfl
theorem nx_over (h : DQ q 8 fr sz r0 d cl) (hs : sl - (fr + sz) < frame) : ∃ q', next (depthK n frame sl) q = q' ∧ q'.fin = 2 ∧ q'.kind = 7 ∧ q'.val = 0 ∧ q'.depth = d ∧ q'.ev = [] := by
  have hX : (depthK n frame sl).X q.at_.toNat = ⟨26, 0, 0, 0, 1⟩ := by rw [h.at_]; rfl
  have e : next (depthK n frame sl) q = q.tick.fins 2 7 0 := by
    unfold next
    rw [hX]
    show (if sl - (q.fr + q.sz) < frame then q.tick.fins 2 7 0 else q.tick.begin (depthK n frame sl) 1 (q.fr + q.sz) (q.at_ + 1) q.fr) = _
    rw [h.fr_, h.sz_, if_pos hs]
  exact ⟨_, e, rfl, rfl, rfl, h.dp, h.ev⟩
theorem nx_lds (h : DQ q 9 fr sz r0 d cl) : ∃ q', next (depthK n frame sl) q = q' ∧ DQ q' 10 fr sz r0 d cl ∧ q'.st = q.st ∧ q'.regs 1 = q.st (fr + (frame - 1)) := by
  have hX : (depthK n frame sl).X q.at_.toNat = ⟨24, 1, 0, 0, frame - 1⟩ := by rw [h.at_]; rfl
  refine ⟨q.tick.reg 1 (q.st (q.fr + (frame - 1))), by unfold next; rw [hX]; rfl, ⟨h.fin, by show q.at_ + 1 = 10; rw [h.at_]; rfl, h.fr_, h.sz_, h.r0, h.r5, h.cl_, h.ev, h.dp, h.tk⟩, rfl, ?_⟩
  show q.st (q.fr + (frame - 1)) = _
  rw [h.fr_]
theorem nx_add (h : DQ q 10 fr sz r0 d cl) {r1 : Int} (h1 : q.regs 1 = r1) (h2 : 0 ≤ r0) (h3 : r0 ≤ 100000000000) (h4 : 0 ≤ r1) (h5 : r1 ≤ 100000000000) : ∃ q', next (depthK n frame sl) q = q' ∧ DQ q' 11 fr sz (r0 + r1) d cl ∧ q'.st = q.st := by
  have hX : (depthK n frame sl).X q.at_.toNat = ⟨3, 0, 0, 1, 0⟩ := by rw [h.at_]; rfl
  refine ⟨q.tick.reg 0 (wadd (q.regs 0) (q.regs 1)), by unfold next; rw [hX]; rfl, ⟨h.fin, by show q.at_ + 1 = 11; rw [h.at_]; rfl, h.fr_, h.sz_, ?_, h.r5, h.cl_, h.ev, h.dp, h.tk⟩, rfl⟩
  show wadd (q.regs 0) (q.regs 1) = _
  rw [h.r0, h1]
  unfold wadd
  first | exact wrap64_eq (by omega) (by omega) | (unfold wrap64; omega)
theorem nx_ret (h : DQ q 11 fr sz r0 d cl) (hc : ¬ cl.length = 1) : ∃ q', next (depthK n frame sl) q = q' ∧ DQ q' (q.st fr) (q.st (fr + 1)) (depthF frame (cl.dropLast.getLastD 0).toNat).frame r0 d cl.dropLast ∧ q'.st = q.st := by
  have hX : (depthK n frame sl).X q.at_.toNat = ⟨27, 0, 0, 0, 0⟩ := by rw [h.at_]; rfl
  have e : next (depthK n frame sl) q = q.tick.ret (depthK n frame sl) := by
    unfold next
    rw [hX]
    show (if q.cl.length = 1 then { q.tick with cl := [] }.fins 1 0 0 else q.tick.ret (depthK n frame sl)) = _
    rw [if_neg (by rw [h.cl_]; exact hc)]
  refine ⟨_, e, ⟨h.fin, by show q.st q.fr = _; rw [h.fr_], by show q.st (q.fr + 1) = _; rw [h.fr_], by show ((depthK n frame sl).Fs (q.cl.dropLast.getLastD 0).toNat).frame = _; rw [h.cl_]; rfl, h.r0, h.r5, by show q.cl.dropLast = _; rw [h.cl_], h.ev, h.dp, h.tk⟩, rfl⟩
theorem DQ.step (h : DQ q a fr sz r0 d cl) {q' : MQ} (e : next (depthK n frame sl) q = q') (m : Nat) : runN (depthK n frame sl) (m + 1) q = runN (depthK n frame sl) m q' := by
  rw [runN_succ _ _ _ (go_of h.fin h.ev), e]
theorem tri (k : Nat) : ((k : Int) + 1) * ((k : Int) + 2) / 2 = (k : Int) * ((k : Int) + 1) / 2 + ((k : Int) + 1) := by
  have : ((k : Int) + 1) * ((k : Int) + 2) = (k : Int) * ((k : Int) + 1) + 2 * ((k : Int) + 1) := by
    simp only [Int.add_mul, Int.mul_add, Int.mul_one, Int.one_mul]; omega
  rw [this]
  omega
theorem tri_le (k : Nat) (h : k ≤ 5000) : 0 ≤ (k : Int) * ((k : Int) + 1) / 2 ∧ (k : Int) * ((k : Int) + 1) / 2 ≤ 100000000 := by
  have h1 : (0 : Int) ≤ (k : Int) * ((k : Int) + 1) := Int.mul_nonneg (by omega) (by omega)
  have h2 : (k : Int) * ((k : Int) + 1) ≤ 5000 * 5001 := Int.mul_le_mul (by omega) (by omega) (by omega) (by omega)
  omega
/-- A call of f with k, and its way back. -/
theorem down_c (h3 : 3 ≤ frame) : ∀ (k : Nat) (q : MQ) (fr d : Int) (cl : List Int), k ≤ 5000 → DQ q 5 fr frame k d cl → 2 ≤ cl.length → cl.getLastD 0 = 1 → (cl.length : Int) ≤ d → fr + ((k : Int) + 1) * frame ≤ sl →
    ∃ q', (∀ m, runN (depthK n frame sl) (7 * k + 3 + m) q = runN (depthK n frame sl) m q') ∧ DQ q' (q.st fr) (q.st (fr + 1)) (depthF frame (cl.dropLast.getLastD 0).toNat).frame ((k : Int) * ((k : Int) + 1) / 2) (max d ((cl.length : Int) + k)) cl.dropLast ∧ ∀ j, j < fr + (frame - 1) → q'.st j = q.st j
  | 0, q, fr, d, cl, hk, h, hc, hl, hd, hs => by
    obtain ⟨q1, e1, h1, s1⟩ := nx_sts (n := n) (frame := frame) (sl := sl) h
    obtain ⟨q2, e2, h2, s2⟩ := nx_bz0 (n := n) (frame := frame) (sl := sl) h1
    obtain ⟨q3, e3, h3', s3⟩ := nx_ret (n := n) (frame := frame) (sl := sl) h2 (by omega)
    have st : ∀ j, j < fr + (frame - 1) → q2.st j = q.st j := fun j hj => by rw [s2, s1, sset_ne _ _ (by omega)]
    refine ⟨q3, fun m => ?_, ?_, fun j hj => by rw [s3, st j hj]⟩
    · rw [show 7 * 0 + 3 + m = m + 1 + 1 + 1 by omega, h.step e1, h1.step e2, h2.step e3]
    · rw [st fr (by omega), st (fr + 1) (by omega)] at h3'
      rw [show max d ((cl.length : Int) + (0 : Nat)) = d by omega]
      exact h3'
  | k + 1, q, fr, d, cl, hk, h, hc, hl, hd, hs => by
    have hm : ((((k + 1 : Nat) : Int)) + 1) * frame = ((k : Int) + 1) * frame + frame := by
      simp only [Int.add_mul, Int.one_mul, Int.natCast_add, Int.natCast_one]
    have hp : 0 ≤ ((k : Int) + 1) * frame := Int.mul_nonneg (by omega) (by omega)
    have hp2 : frame ≤ ((k : Int) + 1) * frame := by
      have : 0 ≤ (k : Int) * frame := Int.mul_nonneg (by omega) (by omega)
      rw [Int.add_mul, Int.one_mul]; omega
    obtain ⟨q1, e1, h1, s1⟩ := nx_sts (n := n) (frame := frame) (sl := sl) h
    obtain ⟨q2, e2, h2, s2⟩ := nx_bz1 (n := n) (frame := frame) (sl := sl) h1 (by omega)
    obtain ⟨q3, e3, h3', s3⟩ := nx_sub (n := n) (frame := frame) (sl := sl) h2 (by omega) (by omega)
    rw [show (((k + 1 : Nat) : Int)) - 1 = k by omega] at h3'
    obtain ⟨q4, e4, h4, s4⟩ := nx_call (n := n) (frame := frame) (sl := sl) h3' (by omega)
    have hl4 : (cl ++ [1]).length = cl.length + 1 := by simp
    obtain ⟨q5, r5, h5, s5⟩ := down_c h3 k q4 (fr + frame) _ (cl ++ [1]) (by omega) h4 (by omega) (by simp) (by omega) (by omega)
    have a4 : q4.st (fr + frame) = 9 := by rw [s4, sset_ne _ _ (by omega), sset_eq]
    have b4 : q4.st (fr + frame + 1) = fr := by rw [s4, sset_eq]
    have c4 : ∀ j, j < fr + frame → q4.st j = q1.st j := fun j hj => by rw [s4, sset_ne _ _ (by omega), sset_ne _ _ (by omega), s3, s2]
    rw [a4, b4, List.dropLast_concat, hl] at h5
    have hF : (depthF frame (1 : Int).toNat).frame = frame := rfl
    rw [hF] at h5
    obtain ⟨t0, t1⟩ := tri_le k (by omega)
    obtain ⟨q6, e6, h6, s6, v6⟩ := nx_lds (n := n) (frame := frame) (sl := sl) h5
    have w6 : q6.regs 1 = (k : Int) + 1 := by
      rw [v6, s5 _ (by omega), c4 _ (by omega), s1, sset_eq]; rfl
    obtain ⟨q7, e7, h7, s7⟩ := nx_add (n := n) (frame := frame) (sl := sl) h6 w6 t0 (by omega) (by omega) (by omega)
    obtain ⟨q8, e8, h8, s8⟩ := nx_ret (n := n) (frame := frame) (sl := sl) h7 (by omega)
    have st : ∀ j, j < fr + (frame - 1) → q7.st j = q.st j := fun j hj => by rw [s7, s6, s5 _ (by omega), c4 _ (by omega), s1, sset_ne _ _ (by omega)]
    refine ⟨q8, fun m => ?_, ?_, fun j hj => by rw [s8, st j hj]⟩
    · rw [show 7 * (k + 1) + 3 + m = 7 * k + 3 + (m + 1 + 1 + 1) + 1 + 1 + 1 + 1 by omega, h.step e1, h1.step e2, h2.step e3, h3'.step e4, r5, h5.step e6, h6.step e7, h7.step e8]
    · rw [st fr (by omega), st (fr + 1) (by omega)] at h8
      rw [← tri] at h8
      rw [show (((k + 1 : Nat) : Int)) * (((k + 1 : Nat) : Int) + 1) / 2 = ((k : Int) + 1) * ((k : Int) + 2) / 2 by rw [show (((k + 1 : Nat) : Int)) = (k : Int) + 1 by omega, show (k : Int) + 1 + 1 = (k : Int) + 2 by omega]]
      rw [show max d ((cl.length : Int) + (k + 1 : Nat)) = max (max d ((cl.length : Int) + 1)) (((cl ++ [1]).length : Int) + k) by rw [hl4]; omega]
      exact h8
/-- One word too few: it ends at the last call. -/
theorem down_no (h3 : 3 ≤ frame) : ∀ (k : Nat) (q : MQ) (fr d : Int) (cl : List Int), k ≤ 5000 → DQ q 5 fr frame ((k : Int) + 1) d cl → 2 ≤ cl.length → (cl.length : Int) ≤ d → fr + ((k : Int) + 2) * frame - 1 = sl →
    ∃ q', (∀ m, runN (depthK n frame sl) (4 * k + 4 + m) q = q') ∧ q'.fin = 2 ∧ q'.kind = 7 ∧ q'.val = 0 ∧ q'.depth = max d ((cl.length : Int) + k) ∧ q'.ev = []
  | 0, q, fr, d, cl, hk, h, hc, hd, hs => by
    rw [show ((0 : Nat) : Int) + 2 = 2 from rfl] at hs
    obtain ⟨q1, e1, h1, s1⟩ := nx_sts (n := n) (frame := frame) (sl := sl) h
    obtain ⟨q2, e2, h2, s2⟩ := nx_bz1 (n := n) (frame := frame) (sl := sl) h1 (by omega)
    obtain ⟨q3, e3, h3', s3⟩ := nx_sub (n := n) (frame := frame) (sl := sl) h2 (by omega) (by omega)
    obtain ⟨q4, e4, f4, k4, v4, d4, x4⟩ := nx_over (n := n) (frame := frame) (sl := sl) h3' (by omega)
    refine ⟨q4, fun m => ?_, f4, k4, v4, by rw [d4]; omega, x4⟩
    rw [show 4 * 0 + 4 + m = m + 1 + 1 + 1 + 1 by omega, h.step e1, h1.step e2, h2.step e3, h3'.step e4, runN_rest]
    unfold goes
    rw [f4]
    rfl
  | k + 1, q, fr, d, cl, hk, h, hc, hd, hs => by
    have hm : ((((k + 1 : Nat) : Int)) + 2) * frame = ((k : Int) + 2) * frame + frame := by
      simp only [Int.add_mul, Int.one_mul, Int.natCast_add, Int.natCast_one]; omega
    have hp2 : 2 * frame ≤ ((k : Int) + 2) * frame := by
      have : 0 ≤ (k : Int) * frame := Int.mul_nonneg (by omega) (by omega)
      rw [Int.add_mul]; omega
    obtain ⟨q1, e1, h1, s1⟩ := nx_sts (n := n) (frame := frame) (sl := sl) h
    obtain ⟨q2, e2, h2, s2⟩ := nx_bz1 (n := n) (frame := frame) (sl := sl) h1 (by omega)
    obtain ⟨q3, e3, h3', s3⟩ := nx_sub (n := n) (frame := frame) (sl := sl) h2 (by omega) (by omega)
    rw [show (((k + 1 : Nat) : Int)) + 1 - 1 = (k : Int) + 1 by omega] at h3'
    obtain ⟨q4, e4, h4, s4⟩ := nx_call (n := n) (frame := frame) (sl := sl) h3' (by omega)
    have hl4 : (cl ++ [1]).length = cl.length + 1 := by simp
    obtain ⟨q5, r5, f5, k5, v5, d5, x5⟩ := down_no h3 k q4 (fr + frame) _ (cl ++ [1]) (by omega) h4 (by omega) (by omega) (by omega)
    refine ⟨q5, fun m => ?_, f5, k5, v5, by rw [d5, hl4]; omega, x5⟩
    rw [show 4 * (k + 1) + 4 + m = (4 * k + 4 + m) + 1 + 1 + 1 + 1 by omega, h.step e1, h1.step e2, h2.step e3, h3'.step e4, r5]
end
/-- main, as far as its call. -/
theorem depth_main (n : Nat) (hn : n ≤ 4095) (frame sl : Int) (h2 : ¬ sl < 2) : ∃ q, (∀ m, runN (depthK n frame sl) (2 + m) (newQ (depthK n frame sl) []) = runN (depthK n frame sl) m q) ∧ q.fin = 0 ∧ q.at_ = 2 ∧ q.fr = 0 ∧ q.sz = 2 ∧ q.regs 0 = n ∧ q.regs 5 = 1 ∧ q.cl = [0] ∧ q.ev = [] ∧ q.depth = 1 ∧ q.hp.tk = 0 := by
  have e : newQ (depthK n frame sl) [] = (q00 []).begin (depthK n frame sl) 0 0 (-1) (-1) := if_neg h2
  have g0 : goes (depthK n frame sl) ((q00 []).begin (depthK n frame sl) 0 0 (-1) (-1)) = true := rfl
  have g1 : goes (depthK n frame sl) (next (depthK n frame sl) ((q00 []).begin (depthK n frame sl) 0 0 (-1) (-1))) = true := rfl
  refine ⟨next (depthK n frame sl) (next (depthK n frame sl) ((q00 []).begin (depthK n frame sl) 0 0 (-1) (-1))), fun m => ?_, rfl, rfl, rfl, rfl, rfl, rfl, rfl, rfl, rfl, rfl⟩
  rw [e, show 2 + m = m + 1 + 1 by omega, runN_succ _ _ _ g0, runN_succ _ _ _ g1]
theorem main_call {n frame sl : Int} {q : MQ} (h1 : q.fin = 0) (h2 : q.at_ = 2) (h3 : q.fr = 0) (h4 : q.sz = 2) (h5 : q.ev = []) :
    goes (depthK n frame sl) q = true ∧ next (depthK n frame sl) q = if sl - 2 < frame then q.tick.fins 2 7 0 else q.tick.begin (depthK n frame sl) 1 2 3 0 := by
  have hX : (depthK n frame sl).X q.at_.toNat = ⟨26, 0, 0, 0, 1⟩ := by rw [h2]; rfl
  refine ⟨go_of h1 h5, ?_⟩
  unfold next
  rw [hX]
  show (if sl - (q.fr + q.sz) < frame then q.tick.fins 2 7 0 else q.tick.begin (depthK n frame sl) 1 (q.fr + q.sz) (q.at_ + 1) q.fr) = _
  rw [h2, h3, h4]
  rfl
/-- The stack is just enough. -/
theorem depth_yes (n : Nat) (hn : n ≤ 4095) (frame : Int) (h3 : 3 ≤ frame) : ∃ q', runN (depthK n frame (2 + ((n : Int) + 1) * frame)) (20 * (n + 2)) (newQ (depthK n frame (2 + ((n : Int) + 1) * frame)) []) = q' ∧ q'.fin = 1 ∧ q'.depth = (n : Int) + 2 ∧ q'.ev = [(1, (n : Int) * ((n : Int) + 1) / 2)] ∧ q'.hp.tk = 0 := by
  have hp : frame ≤ ((n : Int) + 1) * frame := by
    have : 0 ≤ (n : Int) * frame := Int.mul_nonneg (by omega) (by omega)
    rw [Int.add_mul, Int.one_mul]; omega
  generalize hsl : 2 + ((n : Int) + 1) * frame = sl
  obtain ⟨q, hr, h1, h2, hf, hsz, hr0, hr5, hcl, hev, hdp, htk⟩ := depth_main n hn frame sl (by omega)
  obtain ⟨g2, e2⟩ := main_call (n := n) (frame := frame) (sl := sl) h1 h2 hf hsz hev
  rw [if_neg (by omega)] at e2
  have D : DQ (q.tick.begin (depthK n frame sl) 1 2 3 0) 5 2 frame n 2 [0, 1] := by
    refine ⟨h1, rfl, rfl, rfl, hr0, hr5, ?_, hev, ?_, htk⟩
    · show q.cl ++ [1] = _
      rw [hcl]; rfl
    · show max q.depth ((q.cl.length : Int) + 1) = 2
      rw [hdp, hcl]; rfl
  have sa : (q.tick.begin (depthK n frame sl) 1 2 3 0).st 2 = 3 := by
    show sset (sset q.st 2 3) (2 + 1) 0 2 = 3
    rw [sset_ne _ _ (by omega), sset_eq]
  have sb : (q.tick.begin (depthK n frame sl) 1 2 3 0).st (2 + 1) = 0 := by
    show sset (sset q.st 2 3) (2 + 1) 0 (2 + 1) = 0
    exact sset_eq _ _ _
  obtain ⟨q5, r5, h5, -⟩ := down_c (n := n) (frame := frame) (sl := sl) h3 n _ 2 2 [0, 1] (by omega) D (by decide) rfl (by decide) (by omega)
  rw [sa, sb] at h5
  obtain ⟨t0, t1⟩ := tri_le n (by omega)
  generalize (n : Int) * ((n : Int) + 1) / 2 = z at *
  have g5 := go_of (K := depthK n frame sl) h5.fin h5.ev
  have hX5 : (depthK n frame sl).X q5.at_.toNat = ⟨37, 0, 0, 0, 0⟩ := by rw [h5.at_]; rfl
  have e5 : next (depthK n frame sl) q5 = { q5.tick with ev := q5.ev ++ [(1, q5.regs 0)] } := by unfold next; rw [hX5]; rfl
  have hX6 : (depthK n frame sl).X ((next (depthK n frame sl) q5).at_).toNat = ⟨27, 0, 0, 0, 0⟩ := by rw [e5]; show (depthK n frame sl).X (q5.at_ + 1).toNat = _; rw [h5.at_]; rfl
  have g6 : goes (depthK n frame sl) (next (depthK n frame sl) q5) = true := by
    unfold goes rests
    rw [hX6, e5]
    show (q5.fin == 0 && !(decide (1048576 ≤ (q5.ev ++ [(1, q5.regs 0)]).length) && _)) = true
    rw [h5.fin, h5.ev]
    rfl
  have e6 : next (depthK n frame sl) (next (depthK n frame sl) q5) = { (next (depthK n frame sl) q5).tick with cl := [] }.fins 1 0 0 := by
    show act (depthK n frame sl) (next (depthK n frame sl) q5).tick ((depthK n frame sl).X (next (depthK n frame sl) q5).at_.toNat) = _
    rw [hX6]
    show (if (next (depthK n frame sl) q5).cl.length = 1 then { (next (depthK n frame sl) q5).tick with cl := [] }.fins 1 0 0 else _) = _
    rw [if_pos (by rw [e5]; show q5.cl.length = 1; rw [h5.cl_]; rfl)]
  refine ⟨_, rfl, ?_⟩
  rw [show 20 * (n + 2) = 2 + ((7 * n + 3 + ((13 * n + 32) + 1 + 1)) + 1) by omega, hr, runN_succ _ _ _ g2, e2, r5, runN_succ _ _ _ g5, runN_succ _ _ _ g6, e6, runN_rest _ _ rfl, e5]
  refine ⟨rfl, ?_, ?_, h5.tk⟩
  · show q5.depth = _
    rw [h5.dp]
    show max (2 : Int) (2 + (n : Int)) = (n : Int) + 2
    omega
  · show q5.ev ++ [(1, q5.regs 0)] = _
    rw [h5.ev, h5.r0]
    rfl
/-- One word too few. -/
theorem depth_no (n : Nat) (hn : n ≤ 4095) (frame : Int) (h3 : 3 ≤ frame) : ∃ q', runN (depthK n frame (2 + ((n : Int) + 1) * frame - 1)) (20 * (n + 2)) (newQ (depthK n frame (2 + ((n : Int) + 1) * frame - 1)) []) = q' ∧ q'.fin = 2 ∧ q'.kind = 7 ∧ q'.val = 0 ∧ q'.depth = (n : Int) + 1 ∧ q'.ev = [] := by
  have hp : frame ≤ ((n : Int) + 1) * frame := by
    have : 0 ≤ (n : Int) * frame := Int.mul_nonneg (by omega) (by omega)
    rw [Int.add_mul, Int.one_mul]; omega
  generalize hsl : 2 + ((n : Int) + 1) * frame - 1 = sl
  obtain ⟨q, hr, h1, h2, hf, hsz, hr0, hr5, hcl, hev, hdp, htk⟩ := depth_main n hn frame sl (by omega)
  obtain ⟨g2, e2⟩ := main_call (n := n) (frame := frame) (sl := sl) h1 h2 hf hsz hev
  cases n with
  | zero =>
    rw [show (((0 : Nat) : Int) + 1) * frame = frame by rw [show ((0 : Nat) : Int) + 1 = 1 from rfl, Int.one_mul]] at hsl
    rw [if_pos (by omega)] at e2
    refine ⟨_, rfl, ?_⟩
    rw [show 20 * (0 + 2) = 2 + (37 + 1) by omega, hr, runN_succ _ _ _ g2, e2, runN_rest _ _ rfl]
    exact ⟨rfl, rfl, rfl, hdp, hev⟩
  | succ k =>
    have hm : (((k + 1 : Nat) : Int) + 1) * frame = ((k : Int) + 1) * frame + frame := by
      simp only [Int.add_mul, Int.one_mul, Int.natCast_add, Int.natCast_one]
    have hm2 : ((k : Int) + 2) * frame = ((k : Int) + 1) * frame + frame := by
      simp only [Int.add_mul, Int.one_mul]; omega
    have hp2 : frame ≤ ((k : Int) + 1) * frame := by
      have : 0 ≤ (k : Int) * frame := Int.mul_nonneg (by omega) (by omega)
      rw [Int.add_mul, Int.one_mul]; omega
    rw [if_neg (by omega)] at e2
    have D : DQ (q.tick.begin (depthK (k + 1 : Nat) frame sl) 1 2 3 0) 5 2 frame ((k : Int) + 1) 2 [0, 1] := by
      refine ⟨h1, rfl, rfl, rfl, ?_, hr5, ?_, hev, ?_, htk⟩
      · show q.regs 0 = _
        rw [hr0]; omega
      · show q.cl ++ [1] = _
        rw [hcl]; rfl
      · show max q.depth ((q.cl.length : Int) + 1) = 2
        rw [hdp, hcl]; rfl
    obtain ⟨q5, r5, f5, k5, v5, d5, x5⟩ := down_no (n := (k + 1 : Nat)) (frame := frame) (sl := sl) h3 k _ 2 2 [0, 1] (by omega) D (by decide) (by decide) (by omega)
    refine ⟨q5, ?_, f5, k5, v5, ?_, x5⟩
    · rw [show 20 * (k + 1 + 2) = 2 + ((4 * k + 4 + (16 * k + 53)) + 1) by omega, hr, runN_succ _ _ _ g2, e2, r5]
    · rw [d5]
      show max (2 : Int) (2 + (k : Int)) = _
      omega
end Go.Proofs.Ytkjfbojmkkdgoaa
