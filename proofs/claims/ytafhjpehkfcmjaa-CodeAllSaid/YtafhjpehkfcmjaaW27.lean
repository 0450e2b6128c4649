/- code's reader: instruction: the walk. -/
import Derived.Test.YtafhjpehkfcmjaaW26
set_option linter.unusedVariables false
set_option linter.unusedSimpArgs false
namespace Go.Proofs.Ytafhjpehkfcmjaa
open Go.RowKit
attribute [local go_sem ↓] Go.wp_at_zero Go.wp_at_succ
theorem test3 : ∀ (a b c t : Bool), (!a && b && !c) = t → (t = true → a = false ∧ b = true ∧ c = false) ∧ (t = false → a = true ∨ ¬ (b = true ∧ c = false)) := by decide
theorem i64in_zero : i64in 0 := ⟨by omega, by omega⟩
theorem regR_zero {Bf : Nat → UInt8} {L nf : Nat} {f : Fn} {last : Bool} {p p' : Nat} {bad' : Bool} {v : Int} (h : OpR Bf L nf f last p p' bad' v) : RegR Bf L nf f last p 0 (fun _ => 0) p' bad' v := by
  refine ⟨fun _ _ => rfl, fun _ => i64in_zero, ?_⟩
  rcases h with h | ⟨h1, h2, u, h3, h4, h5, h6⟩
  · exact .inl h
  · exact .inr ⟨h1, by omega, u, fun _ => 0, h3, h4, h5, fun _ => rfl, h6⟩
theorem regR_step {Bf : Nat → UInt8} {L nf : Nat} {f : Fn} {last : Bool} {p j p' p2 : Nat} {bad' bad2 : Bool} {v w : Int} {x : Nat → Int} (h : RegR Bf L nf f last p j x p' bad' v) (hj : j < 3) (hu : j < regsOf v) (hw : i64in w) (hN : NumR Bf L 1 0 15 p' bad' p2 bad2 w) : RegR Bf L nf f last p (j + 1) (updI x j w) p2 bad2 v := by
  obtain ⟨h1, h2, h3⟩ := h
  refine ⟨fun t ht => ?_, fun t => ?_, ?_⟩
  · unfold updI; rw [if_neg (by omega)]; exact h1 t (by omega)
  · unfold updI; split
    · exact hw
    · exact h2 t
  · rcases h3 with ⟨rfl, h⟩ | ⟨rfl, hp, u, a, rfl, hu1, hu2, ha, h⟩
    · rcases hN with ⟨_, rfl, rfl⟩ | ⟨h, _⟩ | ⟨h, _⟩
      · exact .inl ⟨rfl, h⟩
      · cases h
      · cases h
    · have e : ∀ k, run Bf L (pRest nf f u k (3 - j) a) p' = run Bf L (pNum 1 0 15 fun v => pRest nf f u k (3 - (j + 1)) (updN a j v)) p' := fun k => by
        rw [show 3 - j = (3 - (j + 1)) + 1 by omega, pRest, show 2 - (3 - (j + 1)) = j by omega, decide_eq_true hu, pReg, if_pos rfl]
      rcases hN with ⟨h, _⟩ | ⟨_, rfl, _, h7⟩ | ⟨_, rfl, rfl, hL7, y, rfl, f1, f2, _, h7⟩
      · cases h
      · exact .inl ⟨rfl, fun k => by rw [h, e, h7]⟩
      · have w1 : IntKind.i64.wrap (y : Int) = y := wrap_i64 ⟨by omega, by omega⟩
        rw [w1]
        refine .inr ⟨rfl, by omega, u, updN a j y, rfl, hu1, hu2, fun t => ?_, fun k => by rw [h, e, h7]⟩
        unfold updI updN
        split
        · rfl
        · exact ha t
theorem regR_skip {Bf : Nat → UInt8} {L nf : Nat} {f : Fn} {last : Bool} {p j p' : Nat} {bad' : Bool} {v : Int} {x : Nat → Int} (h : RegR Bf L nf f last p j x p' bad' v) (hj : j < 3) (hu : ¬ j < regsOf v) : RegR Bf L nf f last p (j + 1) x p' bad' v := by
  obtain ⟨h1, h2, h3⟩ := h
  refine ⟨fun t ht => h1 t (by omega), h2, ?_⟩
  rcases h3 with h | ⟨rfl, hp, u, a, rfl, hu1, hu2, ha, h⟩
  · exact .inl h
  · refine .inr ⟨rfl, hp, u, a, rfl, hu1, hu2, ha, fun k => ?_⟩
    have e0 : updN a j 0 = a := by
      funext t
      unfold updN
      split
      · rename_i e; subst e; have := ha t; rw [h1 t (Nat.le_refl _)] at this; omega
      · rfl
    have hd : decide (j < regsOf (u : Int)) = false := decide_eq_false hu
    rw [h, show 3 - j = (3 - (j + 1)) + 1 by omega, pRest, show 2 - (3 - (j + 1)) = j by omega, hd, pReg, if_neg (by decide), e0]
def FinR (Bf : Nat → UInt8) (L nf : Nat) (f : Fn) (last : Bool) (p : Nat) (x : Ins) (p' : Nat) (bad' : Bool) : Prop :=
  InsIn x ∧ ((bad' = true ∧ ∀ k, run Bf L (pIn nf f last k) p = .bad p') ∨ (bad' = false ∧ p + 1 ≤ p' ∧ ∀ k, run Bf L (pIn nf f last k) p = run Bf L (k x) p'))
theorem finR_wide {Bf : Nat → UInt8} {L nf : Nat} {f : Fn} {last : Bool} {p p' p2 : Nat} {bad' bad2 : Bool} {v n : Int} {x : Nat → Int} (h : RegR Bf L nf f last p 3 x p' bad' v) (hv : i64in v) (hw : wideOf v = true) (hn : i64in n) (hN : NumR Bf L 8 (bnd nf f v.toNat).1 (bnd nf f v.toNat).2 p' bad' p2 bad2 n) : FinR Bf L nf f last p ⟨v, x 0, x 1, x 2, n⟩ p2 bad2 := by
  obtain ⟨h1, h2, h3⟩ := h
  refine ⟨⟨hv, h2 0, h2 1, h2 2, hn⟩, ?_⟩
  rcases h3 with ⟨rfl, h⟩ | ⟨rfl, hp, u, a, rfl, hu1, hu2, ha, h⟩
  · rcases hN with ⟨_, rfl, rfl⟩ | ⟨h, _⟩ | ⟨h, _⟩
    · exact .inl ⟨rfl, h⟩
    · cases h
    · cases h
  · rw [Int.toNat_natCast] at hN
    have e : ∀ k, run Bf L (pRest nf f u k (3 - 3) a) p' = run Bf L (pNum 8 (bnd nf f u).1 (bnd nf f u).2 fun v => k ⟨u, a 0, a 1, a 2, IntKind.i64.wrap v⟩) p' := fun k => by rw [Nat.sub_self, pRest, if_pos hw]
    rcases hN with ⟨h, _⟩ | ⟨_, rfl, _, h7⟩ | ⟨_, rfl, rfl, hL7, y, rfl, f1, f2, _, h7⟩
    · cases h
    · exact .inl ⟨rfl, fun k => by rw [h, e, h7]⟩
    · exact .inr ⟨rfl, by omega, fun k => by rw [h, e, h7, ha 0, ha 1, ha 2]⟩
theorem finR_thin {Bf : Nat → UInt8} {L nf : Nat} {f : Fn} {last : Bool} {p p' : Nat} {bad' : Bool} {v : Int} {x : Nat → Int} (h : RegR Bf L nf f last p 3 x p' bad' v) (hv : i64in v) (hw : wideOf v = false) : FinR Bf L nf f last p ⟨v, x 0, x 1, x 2, 0⟩ p' bad' := by
  obtain ⟨h1, h2, h3⟩ := h
  refine ⟨⟨hv, h2 0, h2 1, h2 2, i64in_zero⟩, ?_⟩
  rcases h3 with ⟨rfl, h⟩ | ⟨rfl, hp, u, a, rfl, hu1, hu2, ha, h⟩
  · exact .inl ⟨rfl, h⟩
  · exact .inr ⟨rfl, hp, fun k => by rw [h, Nat.sub_self, pRest, if_neg (by rw [hw]; decide), ha 0, ha 1, ha 2]⟩
theorem wide_int {op : Int} (hw : wideOf op = true) : ∃ u : Nat, op = (u : Int) ∧ u ≤ 38 := by
  refine Classical.byContradiction fun hc => ?_
  have hf : ∀ c : Int, 0 ≤ c → c ≤ 38 → (op == c) = false := fun c h0 hc2 => beq_eq_false_iff_ne.2 fun e => hc ⟨c.toNat, by omega, by omega⟩
  unfold wideOf shapeOf at hw
  simp only [hf 27 (by omega) (by omega), hf 1 (by omega) (by omega), hf 22 (by omega) (by omega), hf 23 (by omega) (by omega), hf 24 (by omega) (by omega), hf 25 (by omega) (by omega), hf 32 (by omega) (by omega), hf 33 (by omega) (by omega), hf 35 (by omega) (by omega), hf 2 (by omega) (by omega), hf 18 (by omega) (by omega), hf 19 (by omega) (by omega), hf 20 (by omega) (by omega), hf 28 (by omega) (by omega), hf 29 (by omega) (by omega), hf 30 (by omega) (by omega), hf 31 (by omega) (by omega), hf 21 (by omega) (by omega), hf 26 (by omega) (by omega), hf 34 (by omega) (by omega), hf 36 (by omega) (by omega), hf 37 (by omega) (by omega), hf 38 (by omega) (by omega), Bool.or_false, Bool.false_eq_true, if_false] at hw
theorem bnd_lt {nf : Nat} {f : Fn} (hf : FnB f) (hnf : nf ≤ 300000000) (op : Nat) : (bnd nf f op).1 < 18446744073709551616 ∧ (bnd nf f op).2 < 18446744073709551616 := by
  obtain ⟨a1, a2, a3, a4, a5, a6, a7, a8⟩ := hf
  unfold bnd
  repeat' split
  all_goals simp
  all_goals omega
def InsPost (w : World) (H : Nat) (G : Nat → Prop) (A : Option Addr) (L c : Nat) (Bf : Nat → UInt8) (r mb : Nat) (fv : Value) (xs : List Ins) (fs : List Fn) (p : Nat) (m : Int) (f : Fn) (last : Bool) (e : Ending) (w' : World) : Prop :=
  e = .returned (.tuple #[]) ∧ ∃ iv' x p' bad', RM w' H G A L c Bf r mb iv' fv (xs ++ [x]) fs fs.length (nameIn fs) p' bad' m ∧ Below H w w' ∧ (∀ g cs, Blk w g 53 cs → Blk w' g 53 cs) ∧ p' ≤ L ∧ FinR Bf L fs.length f last p x p' bad'
theorem ptrs_at (g : Nat) : ∀ j, j < 3 → (#[Value.pointer (some ⟨g, 1, none⟩), .pointer (some ⟨g, 2, none⟩), .pointer (some ⟨g, 3, none⟩)] : Array Value)[j]? = some (.pointer (some ⟨g, 1 + j, none⟩))
  | 0, _ => rfl
  | 1, _ => rfl
  | 2, _ => rfl
  | n + 3, h => by omega
theorem insx_put (v1 : Int) (x : Nat → Int) (j : Nat) (hj : j < 3) (y : Int) : (#[.int .i64 v1, .int .i64 (x 0), .int .i64 (x 1), .int .i64 (x 2), .int .i64 0] : Array Value).setIfInBounds (1 + j) (.int .i64 y) = #[.int .i64 v1, .int .i64 (updI x j y 0), .int .i64 (updI x j y 1), .int .i64 (updI x j y 2), .int .i64 0] := by
  match j, hj with
  | 0, _ => rfl
  | 1, _ => rfl
  | 2, _ => rfl
  | n + 3, hj => omega
theorem insx_at (v1 : Int) (x : Nat → Int) (j : Nat) (hj : j < 3) : (#[.int .i64 v1, .int .i64 (x 0), .int .i64 (x 1), .int .i64 (x 2), .int .i64 0] : Array Value)[1 + j]? = some (.int .i64 (x j)) := by
  match j, hj with
  | 0, _ => rfl
  | 1, _ => rfl
  | 2, _ => rfl
  | n + 3, hj => omega
set_option maxRecDepth 100000 in
set_option maxHeartbeats 32000000 in
theorem rdins_c (w : World) (H : Nat) (G : Nat → Prop) (hG : ∀ b, G b → b < H) (A : Option Addr) (L c : Nat) (Bf : Nat → UInt8) (r mb : Nat) (iv fv : Value) (xs : List Ins) (fs : List Fn) (p : Nat) (m : Int) (f : Fn) (last : Bool) (h : RM w H G A L c Bf r mb iv fv xs fs fs.length (nameIn fs) p false m) (hp : p ≤ L) (hL : L ≤ 300000000) (hc : L ≤ c) (hc2 : c ≤ 9223372036854775807) (hf : FnB f) (hfs1 : 1 ≤ fs.length) (hfs : fs.length ≤ 300000000) (hxs : xs.length ≤ 300000000) :
    Calls Try.prog 30 #[.pointer (some ⟨r, 0, none⟩), fnV f, .bool last] w (InsPost w H G A L c Bf r mb fv xs fs p m f last) := by
  obtain ⟨FA, fcap, rfl, hle, hcm, _⟩ := own_shape h.fm
  unfold maxLen at hcm
  have HG := Lib.hid hG
  have HFB := Lib.hid hf
  have hHw : H ≤ w.heap.size := by have := h.b.lt; have := h.hr; omega
  have HX := Lib.hid (show RM (w.alloc (.cells #[.string f.name, .int .i64 f.frame, .int .i64 f.first, .int .i64 f.count, .int .i64 f.params] 53)) H G A L c Bf r mb iv (.slice FA fs.length fcap) xs fs fs.length (nameIn fs) p false m ∧ Blk (w.alloc (.cells #[.string f.name, .int .i64 f.frame, .int .i64 f.first, .int .i64 f.count, .int .i64 f.params] 53)) w.heap.size 53 #[.string f.name, .int .i64 f.frame, .int .i64 f.first, .int .i64 f.count, .int .i64 f.params] ∧ Below H w (w.alloc (.cells #[.string f.name, .int .i64 f.frame, .int .i64 f.first, .int .i64 f.count, .int .i64 f.params] 53)) from ⟨h.quiet ((Only.refl _ w).alloc _), Blk.new w 53 _, (Below.refl H w).alloc (by omega) _⟩)
  have N1 := Lib.hid (HX.out.1.number HG.out hp hL hc hc2 (n := 1) (lo := 1) (hi := 38) (by omega) (by omega) (by omega) (by omega) (ni := 1) (li := 1) (hi' := 38) rfl rfl rfl)
  have hrl := h.b.lt
  have hr := h.hr
  clear h hG hf
  unfold fnV
  go_enter Try.func30, Try.ntmps30
  go_upto_region 2 with (first | (go_at_call 28; refine N1.out.mono ?_; rintro e w1 ⟨v1, p1, bad1, rfl, hv1, hS1, ho1, hR1⟩; have S1 := Lib.hid hS1; have R1 := Lib.hid hR1; have O1 := Lib.hid ho1; clear hS1 hR1 ho1))
  have S2 : Hid (IT w (w1.alloc (.cells #[.int .i64 v1, .int .i64 0, .int .i64 0, .int .i64 0, .int .i64 0] 41)) H G A L c Bf r mb iv (.slice FA fs.length fcap) xs fs p1 bad1 m w.heap.size #[.string f.name, .int .i64 f.frame, .int .i64 f.first, .int .i64 f.count, .int .i64 f.params] w1.heap.size #[.int .i64 v1, .int .i64 0, .int .i64 0, .int .i64 0, .int .i64 0]) := IT.start S1.out (HX.out.2.1.only O1.out (by omega)) (HX.out.2.2.trans (O1.out.toBelow (by simp; omega) fun k hk e => by omega)) (fun g cs hk => (hk.alloc _).only O1.out (fun e => Blk.ne_ (hk.alloc _) HX.out.1.b (by decide) e)) _
  clear S1 HX N1 O1
  have hp1 : p1 ≤ L := R1.out.le hp
  have S3 := S2
  clear S2
  generalize w1.heap.size = g1 at *
  generalize w1.alloc (.cells #[.int .i64 v1, .int .i64 0, .int .i64 0, .int .i64 0, .int .i64 0] 41) = wa at *
  have t0 : wa.cell? ⟨g1, 0, none⟩ = some (.int .i64 v1) := S3.out.ib.cell 0
  have tl := S3.out.ib.lt
  go_cut [7] from 18 (fun x7 wx => x7 = .bool (lastOk v1) ∧ Hid (IT w wx H G A L c Bf r mb iv (.slice FA fs.length fcap) xs fs p1 bad1 m w.heap.size #[.string f.name, .int .i64 f.frame, .int .i64 f.first, .int .i64 f.count, .int .i64 f.params] g1 #[.int .i64 v1, .int .i64 0, .int .i64 0, .int .i64 0, .int .i64 0]))
  case first =>
    cases hq21 : (v1 == 21) with
    | true =>
      go_wp2_with fail
      go_meet
      case rel => exact ⟨by first | rfl | simp [lastOk, *], S3⟩
    | false =>
      cases hq27 : (v1 == 27) with
      | true =>
        go_wp2_with fail
        go_meet
        case rel => exact ⟨by first | rfl | simp [lastOk, *], S3⟩
      | false =>
        cases hq35 : (v1 == 35) with
        | true =>
          go_wp2_with fail
          go_meet
          case rel => exact ⟨by first | rfl | simp [lastOk, *], S3⟩
        | false =>
          go_wp2_with fail
          go_meet
          case rel => exact ⟨by first | rfl | simp [lastOk, *], S3⟩
  case rest =>
    obtain ⟨rfl, S4⟩ := hcut
    clear S3 t0 tl
    have OPR := Lib.hid (opR_of (nf := fs.length) (f := f) (last := last) R1.out)
    have a2 : wc.cell? ⟨r, 2, none⟩ = some (.bool bad1) := S4.out.rm.b.cell 2
    have hr2 := S4.out.rm.b.lt
    obtain ⟨le, HLE⟩ : ∃ le, Hid (lastOk v1 = le) := ⟨_, rfl⟩
    rw [HLE.out] at OPR ⊢
    clear R1
    go_upto_region 3 with fail
    go_cut [42] from 31 (fun x42 wx => x42 = .bool (!bad1 && last && !le) ∧ Hid (IT w wx H G A L c Bf r mb iv (.slice FA fs.length fcap) xs fs p1 bad1 m w.heap.size #[.string f.name, .int .i64 f.frame, .int .i64 f.first, .int .i64 f.count, .int .i64 f.params] g1 #[.int .i64 v1, .int .i64 0, .int .i64 0, .int .i64 0, .int .i64 0]))
    case first =>
      cases bad1 <;> cases last <;> cases le
      all_goals go_wp2_with fail
      all_goals go_meet
      all_goals (try (case rel => exact ⟨by first | rfl | trivial, S4⟩))
    case rest =>
      obtain ⟨rfl, S5⟩ := hcut
      clear S4 a2
      have a1 : wc.cell? ⟨r, 1, none⟩ = some (.int .i64 (p1 : Int)) := S5.out.rm.b.cell 1
      have a2 : wc.cell? ⟨r, 2, none⟩ = some (.bool bad1) := S5.out.rm.b.cell 2
      have zr : ∀ j, wc.frozen? ⟨r, j, none⟩ = false := S5.out.rm.b.frozen
      have hr3 := S5.out.rm.b.lt
      have FAULT := Lib.hid (fun q => S5.out.fault HG.out q)
      generalize htt : (!bad1 && last && !le) = t at *
      have HTT := Lib.hid htt
      clear htt
      go_upto_if 42 with fail
      go_cut [] from 43 (fun wx => ∃ p2 bad2, Hid (IT w wx H G A L c Bf r mb iv (.slice FA fs.length fcap) xs fs p2 bad2 m w.heap.size #[.string f.name, .int .i64 f.frame, .int .i64 f.first, .int .i64 f.count, .int .i64 f.params] g1 #[.int .i64 v1, .int .i64 0, .int .i64 0, .int .i64 0, .int .i64 0]) ∧ p2 ≤ L ∧ Hid (OpR Bf L fs.length f last p p2 bad2 v1))
      case first =>
        cases t with
        | true =>
          have hx := (test3 _ _ _ _ HTT.out).1 rfl
          obtain ⟨hpe, hO⟩ := OPR.out.2 hx.1 hx.2.1 hx.2.2
          have e1 : Hid ((p1 : Int) - 1 = (p : Int)) := by show _ = _; omega
          have HO := Lib.hid hO
          clear OPR hO hx
          go_wp2_with fail
          go_meet
          case rel =>
            refine ⟨p, true, ?_, hp, HO⟩
            first | rw [e1.out] | skip
            exact FAULT.out p
        | false =>
          have HO := Lib.hid (OPR.out.1 ((test3 _ _ _ _ HTT.out).2 rfl))
          clear OPR FAULT
          go_wp2_with fail
          go_meet
          case rel => exact ⟨p1, bad1, S5, hp1, HO⟩
      case rest =>
        obtain ⟨p2, bad2, S6, hp2, HO⟩ := hcut
        have UC := Lib.hid (fun w' => shape_c v1 hv1 w')
        obtain ⟨q1, q2, q3⟩ := shape_cases v1
        have e0 : wc.cell? ⟨g1, 0, none⟩ = some (.int .i64 v1) := S6.out.ib.cell 0
        have e0l := S6.out.ib.lt
        obtain ⟨rg, HRG⟩ : ∃ rg, Hid (regsOf v1 = rg) := ⟨_, rfl⟩
        obtain ⟨wd, HWD⟩ : ∃ wd, Hid (wideOf v1 = wd) := ⟨_, rfl⟩
        rw [q1, q3, HRG.out, HWD.out] at UC
        rw [HRG.out] at q2
        have S7 := Lib.hid (S6.out.quiet ((Only.refl (fun _ => False) wc).alloc (.cells #[.pointer (some ⟨g1, 1, none⟩), .pointer (some ⟨g1, 2, none⟩), .pointer (some ⟨g1, 3, none⟩)] 89)))
        have BP : Hid (Blk (wc.alloc (.cells #[.pointer (some ⟨g1, 1, none⟩), .pointer (some ⟨g1, 2, none⟩), .pointer (some ⟨g1, 3, none⟩)] 89)) wc.heap.size 89 #[.pointer (some ⟨g1, 1, none⟩), .pointer (some ⟨g1, 2, none⟩), .pointer (some ⟨g1, 3, none⟩)]) := Blk.new wc 89 _
        have RR0 := Lib.hid (regR_zero HO.out)
        clear S6 HO q1 q3 a1 a2 zr hr3 FAULT OPR HTT HLE
        obtain ⟨gp, hgp⟩ : ∃ gp, Hid (wc.heap.size = gp) := ⟨_, rfl⟩
        rw [hgp.out] at BP
        go_wp2_with (first | (go_at_call 27; refine (UC.out _).mono ?_; rintro e w2 ⟨rfl, hw2⟩; subst w2))
        rw [hgp.out]
        go_loopw [66] (fun kv wx => ∃ j : Nat, j ≤ 3 ∧ kv = .int .i64 (j : Int) ∧ ∃ (x : Nat → Int) (pj : Nat) (badj : Bool), Hid (IT w wx H G A L c Bf r mb iv (.slice FA fs.length fcap) xs fs pj badj m w.heap.size #[.string f.name, .int .i64 f.frame, .int .i64 f.first, .int .i64 f.count, .int .i64 f.params] g1 #[.int .i64 v1, .int .i64 (x 0), .int .i64 (x 1), .int .i64 (x 2), .int .i64 0]) ∧ pj ≤ L ∧ Hid (Blk wx gp 89 #[.pointer (some ⟨g1, 1, none⟩), .pointer (some ⟨g1, 2, none⟩), .pointer (some ⟨g1, 3, none⟩)]) ∧ Hid (RegR Bf L fs.length f last p j x pj badj v1)) (fun kv _ => 3 - (intOf kv).toNat)
        case atStart => exact ⟨0, by omega, rfl, fun _ => 0, p2, bad2, S7, hp2, BP, RR0⟩
        case round =>
          clear S7 BP RR0
          obtain ⟨j, hj, rfl, x, pj, badj, S, hpj, BP, RJ⟩ := hrel
          have hlp := BP.out.lt
          have hlg := S.out.ib.lt
          by_cases hj3 : j < 3
          · have cp : wr.cell? ⟨gp, j, none⟩ = some (.pointer (some ⟨g1, 1 + j, none⟩)) := (BP.out.cell j).trans (ptrs_at g1 j hj3)
            by_cases hjr : j < rg
            · have NJ := Lib.hid (S.out.number HG.out hpj hL hc hc2 (n := 1) (lo := 0) (hi := 15) (by omega) (by omega) (by omega) (by omega) (ni := 1) (li := 0) (hi' := 15) rfl rfl rfl)
              have RS : Hid (∀ v p2 bad2, i64in v → NumR Bf L 1 0 15 pj badj p2 bad2 v → RegR Bf L fs.length f last p (j + 1) (updI x j v) p2 bad2 v1) := fun v p2 bad2 hv hN => regR_step RJ.out hj3 (by rw [HRG.out]; exact hjr) hv hN
              have HB0 : Hid (∀ w5 (o : Only (fun b => b = r) wr w5), Blk w5 gp 89 #[.pointer (some ⟨g1, 1, none⟩), .pointer (some ⟨g1, 2, none⟩), .pointer (some ⟨g1, 3, none⟩)]) := fun w5 o => BP.out.only o (fun e => Blk.ne_ BP.out S.out.rm.b (by decide) e)
              have IP := Lib.hid (fun y => insx_put v1 x j hj3 y)
              have IA := Lib.hid (insx_at v1 x j hj3)
              clear RJ BP HRG HWD S
              go_wp2_with (first | (go_at_call 28; refine NJ.out.mono ?_; rintro e w5 ⟨v5, p5, bad5, rfl, hv5, hS5, hp5, hR5, ho5⟩; have S5 := Lib.hid hS5; have RJ5 := Lib.hid (RS.out _ _ _ hv5 hR5); have BP5 := Lib.hid (HB0.out _ ho5); have y5 : w5.cell? ⟨g1, 1 + j, none⟩ = some (.int .i64 (x j)) := (S5.out.ib.cell (1 + j)).trans IA.out; have z5 : ∀ i, w5.frozen? ⟨g1, i, none⟩ = false := S5.out.ib.frozen; have l5 := S5.out.ib.lt; clear hS5 hR5 ho5))
              have S8 : Hid (IT w (w5.setCell ⟨g1, 1 + j, none⟩ (.int .i64 v5)) H G A L c Bf r mb iv (.slice FA fs.length fcap) xs fs p5 bad5 m w.heap.size #[.string f.name, .int .i64 f.frame, .int .i64 f.first, .int .i64 f.count, .int .i64 f.params] g1 #[.int .i64 v1, .int .i64 (updI x j v5 0), .int .i64 (updI x j v5 1), .int .i64 (updI x j v5 2), .int .i64 0]) := by
                have := S5.out.put HG.out (1 + j) (.int .i64 v5)
                rw [IP.out] at this
                exact this
              have BP8 : Hid (Blk (w5.setCell ⟨g1, 1 + j, none⟩ (.int .i64 v5)) gp 89 #[.pointer (some ⟨g1, 1, none⟩), .pointer (some ⟨g1, 2, none⟩), .pointer (some ⟨g1, 3, none⟩)]) := BP5.out.far (fun e => Blk.ne_ BP5.out S5.out.ib (by decide) e) _
              clear S5 y5 z5 l5 BP5 NJ RS HB0 IP IA cp
              go_roundw
              case rel => exact ⟨j + 1, by omega, by go_num, updI x j v5, p5, bad5, S8, hp5, BP8, RJ5⟩
              case measure => first | (simp [intOf]; done) | (simp [intOf]; omega)
            · have RJ5 := Lib.hid (regR_skip RJ.out hj3 (by rw [HRG.out]; exact hjr))
              clear RJ
              go_wp2_with fail
              go_roundw
              case rel => exact ⟨j + 1, by omega, by go_num, x, pj, badj, S, hpj, BP, RJ5⟩
              case measure => first | (simp [intOf]; done) | (simp [intOf]; omega)
          · have hj' : j = 3 := by omega
            subst hj'
            clear BP HRG hlp
            have g0 : wr.cell? ⟨g1, 0, none⟩ = some (.int .i64 v1) := S.out.ib.cell 0
            have f0 : wr.cell? ⟨w.heap.size, 0, none⟩ = some (.string f.name) := S.out.fx.cell 0
            have f1 : wr.cell? ⟨w.heap.size, 1, none⟩ = some (.int .i64 f.frame) := S.out.fx.cell 1
            have f2 : wr.cell? ⟨w.heap.size, 2, none⟩ = some (.int .i64 f.first) := S.out.fx.cell 2
            have f3 : wr.cell? ⟨w.heap.size, 3, none⟩ = some (.int .i64 f.count) := S.out.fx.cell 3
            have f4 : wr.cell? ⟨w.heap.size, 4, none⟩ = some (.int .i64 f.params) := S.out.fx.cell 4
            have flt := S.out.fx.lt
            go_upto_if 79 with fail
            go_cut [13, 14] from 80 (fun x13 x14 wx => ∃ n p5 bad5, Hid (IT w wx H G A L c Bf r mb iv (.slice FA fs.length fcap) xs fs p5 bad5 m w.heap.size #[.string f.name, .int .i64 f.frame, .int .i64 f.first, .int .i64 f.count, .int .i64 f.params] g1 #[.int .i64 v1, .int .i64 (x 0), .int .i64 (x 1), .int .i64 (x 2), .int .i64 n]) ∧ p5 ≤ L ∧ Hid (FinR Bf L fs.length f last p ⟨v1, x 0, x 1, x 2, n⟩ p5 bad5))
            case first =>
              cases wd with
              | false =>
                have FR0 := Lib.hid (finR_thin RJ.out hv1 HWD.out)
                clear RJ
                go_wp2_with fail
                go_meet
                case rel => exact ⟨0, pj, badj, S, hpj, FR0⟩
              | true =>
                obtain ⟨u, hu1, hu2⟩ := wide_int HWD.out
                have BC := Lib.hid (rdbounds_c wr (.slice A L c) r iv FA fs.length fcap m mb pj badj u f S.out.rm.b HFB.out hfs1 hfs hu2 (by rw [← hu1]; exact HWD.out))
                obtain ⟨bl1, bl2⟩ := bnd_lt HFB.out hfs u
                have FW : Hid (∀ n p2 bad2, i64in n → NumR Bf L 8 (bnd fs.length f u).1 (bnd fs.length f u).2 pj badj p2 bad2 n → FinR Bf L fs.length f last p ⟨v1, x 0, x 1, x 2, n⟩ p2 bad2) := fun n p2 bad2 hn hN => finR_wide RJ.out hv1 HWD.out hn (by rw [hu1, Int.toNat_natCast]; exact hN)
                have NW : Hid (∀ w' (h : IT w w' H G A L c Bf r mb iv (.slice FA fs.length fcap) xs fs pj badj m w.heap.size #[.string f.name, .int .i64 f.frame, .int .i64 f.first, .int .i64 f.count, .int .i64 f.params] g1 #[.int .i64 v1, .int .i64 (x 0), .int .i64 (x 1), .int .i64 (x 2), .int .i64 0]), Calls Try.prog 28 #[.pointer (some ⟨r, 0, none⟩), .int .i64 8, .int .u64 ((bnd fs.length f u).1 : Nat), .int .u64 ((bnd fs.length f u).2 : Nat)] w' fun e w2 => ∃ v p2 bad2, e = .returned (.int .i64 v) ∧ i64in v ∧ IT w w2 H G A L c Bf r mb iv (.slice FA fs.length fcap) xs fs p2 bad2 m w.heap.size #[.string f.name, .int .i64 f.frame, .int .i64 f.first, .int .i64 f.count, .int .i64 f.params] g1 #[.int .i64 v1, .int .i64 (x 0), .int .i64 (x 1), .int .i64 (x 2), .int .i64 0] ∧ p2 ≤ L ∧ NumR Bf L 8 (bnd fs.length f u).1 (bnd fs.length f u).2 pj badj p2 bad2 v ∧ Only (fun b => b = r) w' w2) :=
                  fun w' h => h.number HG.out hpj hL hc hc2 (n := 8) (by omega) (by omega) bl1 bl2 rfl rfl rfl
                clear RJ
                generalize (bnd fs.length f u).1 = b1 at *
                generalize (bnd fs.length f u).2 = b2 at *
                rw [← hu1] at BC
                unfold fnV at BC
                clear hu1
                go_wp2_with (first
                  | (go_at_call 41; refine BC.out.mono ?_; rintro e w6 ⟨rfl, hb6⟩; have S6 := Lib.hid (S.out.quiet (Only.ofBelow hb6)); clear hb6)
                  | (have X6 := S6; go_at_call 28; refine (NW.out _ X6.out).mono ?_; rintro e w7 ⟨v7, p7, bad7, rfl, hv7, hS7, hp7, hR7, ho7⟩; have S7 := Lib.hid hS7; have FR7 := Lib.hid (FW.out _ _ _ hv7 hR7); have y7 : w7.cell? ⟨g1, 4, none⟩ = some (.int .i64 0) := S7.out.ib.cell 4; have z7 : ∀ i, w7.frozen? ⟨g1, i, none⟩ = false := S7.out.ib.frozen; have l7 := S7.out.ib.lt; clear hS7 hR7 ho7))
                have S8 : Hid (IT w (w7.setCell ⟨g1, 4, none⟩ (.int .i64 v7)) H G A L c Bf r mb iv (.slice FA fs.length fcap) xs fs p7 bad7 m w.heap.size #[.string f.name, .int .i64 f.frame, .int .i64 f.first, .int .i64 f.count, .int .i64 f.params] g1 #[.int .i64 v1, .int .i64 (x 0), .int .i64 (x 1), .int .i64 (x 2), .int .i64 v7]) := S7.out.put HG.out 4 _
                clear S6 S7 X6 y7 z7 l7 BC FW NW
                go_meet
                case rel => exact ⟨v7, p7, bad7, S8, hp7, FR7⟩
            case rest =>
              obtain ⟨n, p5, bad5, S9, hp5, FR9⟩ := hcut
              have FIN : Hid (∀ (w1 : World) (nv : Value), w1.ownsRow H 41 5 nv (xs.length + 1) (insCells xs ++ [.int .i64 v1, .int .i64 (x 0), .int .i64 (x 1), .int .i64 (x 2), .int .i64 n]) → ((wc.alloc (.cells #[.int .i64 v1, .int .i64 (x 0), .int .i64 (x 1), .int .i64 (x 2), .int .i64 n] 41)).drew).grownBy w1 iv.ownBlock → InsPost w H G A L c Bf r mb (.slice FA fs.length fcap) xs fs p m f last (.returned (.tuple #[])) (w1.setCell ⟨r, 3, none⟩ nv)) := by
                intro w1 nv hown hg
                obtain ⟨hrm, hbw, hkp⟩ := S9.out.append HG.out (x := ⟨v1, x 0, x 1, x 2, n⟩) hown hg
                exact ⟨rfl, nv, _, p5, bad5, hrm, hbw, hkp, hp5, FR9.out⟩
              have FM := Lib.hid S9.out.rm.im
              have AG : Hid (iv.ownBlock ≠ some r) := own_blk_ne S9.out.rm.im S9.out.rm.b (by decide)
              have d0 : wc.cell? ⟨g1, 0, none⟩ = some (.int .i64 v1) := S9.out.ib.cell 0
              have d1 : wc.cell? ⟨g1, 1, none⟩ = some (.int .i64 (x 0)) := S9.out.ib.cell 1
              have d2 : wc.cell? ⟨g1, 2, none⟩ = some (.int .i64 (x 1)) := S9.out.ib.cell 2
              have d3 : wc.cell? ⟨g1, 3, none⟩ = some (.int .i64 (x 2)) := S9.out.ib.cell 3
              have d4 : wc.cell? ⟨g1, 4, none⟩ = some (.int .i64 n) := S9.out.ib.cell 4
              have r3 : wc.cell? ⟨r, 3, none⟩ = some iv := S9.out.rm.b.cell 3
              have zr : ∀ j, wc.frozen? ⟨r, j, none⟩ = false := S9.out.rm.b.frozen
              have hrl9 := S9.out.rm.b.lt
              have hgl := S9.out.ib.lt
              have HHr := S9.out.rm.hr
              obtain ⟨IA, icap, rfl, _, hicm, _⟩ := own_shape S9.out.rm.im
              unfold maxLen at hicm
              clear S S9 RJ FR9 HFB HWD g0 f0 f1 f2 f3 f4 flt
              obtain ⟨i0, hI, hz0, hz1, hz2⟩ := ins_info
              have HI := Lib.hid hI
              have HZ0 := Lib.hid hz0
              have HZ1 := Lib.hid hz1
              have HZ2 := Lib.hid hz2
              clear hI hz0 hz1 hz2
              generalize x 0 = y0 at *
              generalize x 1 = y1 at *
              generalize x 2 = y2 at *
              go_upto_region 15 with fail
              go_region_law
                ((refine step_append_lies _ (by rfl) (.tmp 98) (.tmp 100) 22 (by rfl) H 41 i0 _ 5 40 Try.underlying22 HI.out HZ0.out HZ1.out HZ2.out rfl (by omega) (.slice IA xs.length icap) xs.length (insCells xs) (by rfl) (own_only (own_only FM.out ((Only.refl (fun _ => False) wc).alloc (.cells #[.int .i64 v1, .int .i64 y0, .int .i64 y1, .int .i64 y2, .int .i64 n] 41)) (fun _ _ h => h)) (Only.refl (fun _ => False) _).drew (fun _ _ h => h)) ⟨wc.heap.size, 0, none⟩ 1 1 [.int .i64 v1, .int .i64 y0, .int .i64 y1, .int .i64 y2, .int .i64 n] (by rfl) (by rfl) (World.news_of_block (cs := #[.int .i64 v1, .int .i64 y0, .int .i64 y1, .int .i64 y2, .int .i64 n]) (t := 41) (fr := (0, 0)) (heap_alloc_new _ _)) (by simp [Value.oneCell']) (by omega) (by unfold maxLen; omega) (by omega) (by simp; omega) (wc.heap.size + 1) (by simp) ?_; intro gg cap1 w1' hown1 hgrow hat hlt; have e0 : w1'.cell? ⟨r, 3, none⟩ = some (.slice IA xs.length icap) := (by rw [hgrow.cell_far _ (by simp; omega) (Ne.symm AG.out)]; go_keep); have e2 : ∀ j, w1'.frozen? ⟨r, j, none⟩ = false := (by intro j; rw [hgrow.frozen_far _ (by simp; omega) (Ne.symm AG.out)]; exact (frozen?_alloc_cells _ _ _ _).trans (zr j))))
              all_goals
                go_wp2_with fail
                go_end0
                exact FIN.out _ _ hown1 hgrow
end Go.Proofs.Ytafhjpehkfcmjaa
