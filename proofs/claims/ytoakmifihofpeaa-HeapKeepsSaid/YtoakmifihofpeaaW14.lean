/- HeapFar: a block as long as there are addresses. -/
import Derived.Test.YtoakmifihofpeaaW13
set_option linter.unusedVariables false
set_option linter.unusedSimpArgs false
namespace Go.Proofs.Ytoakmifihofpeaa
open Go.RowKit
attribute [local go_sem ↓] Go.wp_at_zero Go.wp_at_succ
def slotv (i n : Int) : Int := if i.tmod n < 0 then i.tmod n + n else i.tmod n
theorem slotv_range (i n : Int) (hn : 0 < n) : 0 ≤ slotv i n ∧ slotv i n < n := by
  have t1 := Int.tmod_lt_of_pos i hn
  have t2 := Int.lt_tmod_of_pos i hn
  unfold slotv
  split <;> omega
theorem slot_c (i n : Int) (hi : i64in i) (hn : 0 < n) (hn2 : n ≤ 1000000) (w : World) : Calls Try.prog 14 #[.int .i64 i, .int .i64 n] w fun e w' => e = .returned (.int .i64 (slotv i n)) ∧ w = w' := by
  have t1 := Int.tmod_lt_of_pos i hn
  have t2 := Int.lt_tmod_of_pos i hn
  obtain ⟨i1, i2⟩ := hi
  by_cases hz : i.tmod n < 0
  · have E := Lib.hid (show slotv i n = i.tmod n + n by rw [slotv, if_pos hz])
    have hn0 : n ≠ 0 := by omega
    go_enter Try.func14, Try.ntmps14
    go_wp2
    go_ret
    exact ⟨by rw [E.out]; rfl, rfl⟩
  · have E := Lib.hid (show slotv i n = i.tmod n by rw [slotv, if_neg hz])
    have hn0 : n ≠ 0 := by omega
    go_enter Try.func14, Try.ntmps14
    go_wp2
    go_ret
    exact ⟨by rw [E.out]; rfl, rfl⟩
/-- The one heap of a call, its blocks the call's own. -/
def St (w wr : World) (g c : Nat) (q : QH) : Prop := Below w.heap.size w wr ∧ HeapAt wr (fun b => w.heap.size ≤ b) g c q ∧ q.Ok
theorem St.only {w wr W : World} {g c c' : Nat} {q q' : QH} (h : St w wr g c q) (ho : Only (fun b => w.heap.size ≤ b) wr W) (hh : HeapAt W (fun b => w.heap.size ≤ b) g c' q') (hq : q'.Ok) : St w W g c' q' :=
  ⟨h.1.trans (ho.toBelow h.1.size fun k hk hf => by omega), hh, hq⟩
theorem St.make {w wr : World} {g c : Nat} {q q' : QH} {n x : Int} {y : Bool} (h : St w wr g c q) (hc : c < 1000000) (hn : i64in n) (hx : makeA q.tk n = x) (hy : fitsB q.tk n = y) (hq' : q.make n = q') :
    Calls Try.prog 15 #[.pointer (some ⟨g, 0, none⟩), .int .i64 n] wr fun e W => e = .returned (.tuple #[.int .i64 x, .bool y]) ∧ Hid (St w W g (c + 1) q') := by
  subst hx hy hq'
  refine (make_c wr _ g c q n h.2.1 h.2.2 hc hn).mono ?_
  rintro e W ⟨rfl, h1, h2⟩
  exact ⟨rfl, h.only h2 h1 (h.2.2.make n)⟩
theorem QH.Ok.set_ {q : QH} (h : q.Ok) (a i v : Int) : (q.set a i v).Ok := by
  unfold QH.set
  split
  · exact h
  · exact h
theorem St.set {w wr : World} {g c : Nat} {q q' : QH} {a i v : Int} {y : Bool} (h : St w wr g c q) (hc : c < 1000000) (ha : i64in a) (hv : i64in v) (hy : q.has a i = y) (hq' : q.set a i v = q') :
    Calls Try.prog 16 #[.pointer (some ⟨g, 0, none⟩), .int .i64 a, .int .i64 i, .int .i64 v] wr fun e W => e = .returned (.bool y) ∧ Hid (St w W g (c + 1) q') := by
  subst hy hq'
  refine (set_c wr _ g c q a i v h.2.1 h.2.2 ha hv hc).mono ?_
  rintro e W ⟨rfl, h1, h2⟩
  exact ⟨rfl, h.only h2 h1 (h.2.2.set_ a i v)⟩
theorem St.get {w wr : World} {g c : Nat} {q : QH} {a i x : Int} {y : Bool} (h : St w wr g c q) (ha : i64in a) (hx : q.getA a i = x) (hy : q.has a i = y) :
    Calls Try.prog 18 #[.pointer (some ⟨g, 0, none⟩), .int .i64 a, .int .i64 i] wr fun e W => e = .returned (.tuple #[.int .i64 x, .bool y]) ∧ wr = W := by
  subst hx hy
  exact get_c wr _ g c q a i h.2.1 h.2.2 ha
theorem St.len {w wr : World} {g c : Nat} {q : QH} {a x : Int} {y : Bool} (h : St w wr g c q) (ha : i64in a) (hx : q.lenA a = x) (hy : q.lenB a = y) :
    Calls Try.prog 17 #[.pointer (some ⟨g, 0, none⟩), .int .i64 a] wr fun e W => e = .returned (.tuple #[.int .i64 x, .bool y]) ∧ wr = W := by
  subst hx hy
  exact len_c wr _ g c q a h.2.1 ha
theorem St.words {w wr : World} {g c : Nat} {q : QH} {x : Int} (h : St w wr g c q) (hx : q.tk = x) :
    Calls Try.prog 19 #[.pointer (some ⟨g, 0, none⟩)] wr fun e W => e = .returned (.int .i64 x) ∧ wr = W := by
  subst hx
  exact words_c wr _ g c q h.2.1
theorem fits_of {tk n : Int} (h : 0 ≤ n ∧ n < 4611686018427387904 - tk) : fitsB tk n = true := decide_eq_true h
theorem fits_no {tk n : Int} (h : ¬ (0 ≤ n ∧ n < 4611686018427387904 - tk)) : fitsB tk n = false := decide_eq_false h
theorem makeA_of {tk n : Int} (h : 0 ≤ n ∧ n < 4611686018427387904 - tk) : makeA tk n = tk + 1 := by rw [makeA, if_pos (fits_of h)]
theorem makeA_no {tk n : Int} (h : ¬ (0 ≤ n ∧ n < 4611686018427387904 - tk)) : makeA tk n = 0 := by rw [makeA, fits_no h]; rfl
theorem make_of {q : QH} {n : Int} (h : 0 ≤ n ∧ n < 4611686018427387904 - q.tk) : q.make n = ⟨upd q.sz (q.tk + 1) n, q.wd, q.tk + n + 1⟩ := by rw [QH.make, if_pos (fits_of h)]
theorem make_not {q : QH} {n : Int} (h : ¬ (0 ≤ n ∧ n < 4611686018427387904 - q.tk)) : q.make n = q := by rw [QH.make, fits_no h]; rfl
def qF1 (f : Int) : QH := ⟨upd (fun _ => none) 1 f, fun _ => none, f + 1⟩
def qF2 (f n : Int) : QH := ⟨upd (upd (fun _ => none) 1 f) (f + 1 + 1) n, fun _ => none, f + 1 + n + 1⟩
def qF3 (f n i v : Int) : QH := (qF2 f n).set (f + 1 + 1) i v
theorem qF1_is (f : Int) (h0 : 0 ≤ f) (h1 : f < 1000) : QH.empty.make f = qF1 f := by
  rw [make_of ⟨h0, by show f < _ - 0; omega⟩]
  show (⟨upd (fun _ => none) (0 + 1) f, fun _ => none, 0 + f + 1⟩ : QH) = ⟨_, _, _⟩
  rw [Int.zero_add, Int.zero_add]
theorem qF2_has (f n i : Int) : (qF2 f n).has (f + 1 + 1) i = decide (0 ≤ i ∧ i < n) := by
  have : (qF2 f n).sz (f + 1 + 1) = some n := by simp [qF2, upd]
  rw [QH.has, this]
theorem qF3_sz (f n i v : Int) : (qF3 f n i v).sz = (qF2 f n).sz := by unfold qF3 QH.set; split <;> rfl
theorem qF3_tk (f n i v : Int) : (qF3 f n i v).tk = f + 1 + n + 1 := by unfold qF3 QH.set; split <;> rfl
theorem qF3_has (f n i v : Int) : (qF3 f n i v).has (f + 1 + 1) i = decide (0 ≤ i ∧ i < n) := by rw [← qF2_has]; unfold QH.has; rw [qF3_sz]
theorem qF3_get (f n i v : Int) (h : 0 ≤ i ∧ i < n) : (qF3 f n i v).getA (f + 1 + 1) i = v := by
  rw [QH.getA, qF3_has, if_pos (decide_eq_true h)]
  have hh : (qF2 f n).has (f + 1 + 1) i = true := by rw [qF2_has]; exact decide_eq_true h
  unfold qF3 QH.set
  rw [if_pos hh]
  simp [upd]
theorem qF3_get0 (f n i v : Int) (h : ¬ (0 ≤ i ∧ i < n)) : (qF3 f n i v).getA (f + 1 + 1) i = 0 := by
  rw [QH.getA, qF3_has, decide_eq_false h]; rfl
theorem qF3_lenA (f n i v : Int) (h0 : 0 ≤ f) : (qF3 f n i v).lenA (f + 1 + 1) = n := by
  rw [QH.lenA, if_neg (by omega), qF3_sz]; simp [qF2, upd]
theorem qF3_lenB (f n i v : Int) (h0 : 0 ≤ f) : (qF3 f n i v).lenB (f + 1 + 1) = true := by
  rw [QH.lenB, if_neg (by omega), qF3_sz]; simp [qF2, upd]
theorem begins (w w1 : World) (hb : Below w.heap.size w w1) : Calls Try.prog 13 #[] w1 fun e w' => ∃ g, e = .returned (.pointer (some ⟨g, 0, none⟩)) ∧ Hid (St w w' g 0 QH.empty) := by
  refine (new_c w1).mono ?_
  rintro e w2 ⟨rfl, h1, h2⟩
  have := hb.size
  exact ⟨_, rfl, hb.trans (h2.mono this), h1.more fun b _ h => by omega, QH.Ok.empty⟩
set_option maxRecDepth 100000 in
set_option maxHeartbeats 4000000 in
theorem far_c (n first i v : Int) (hn : i64in n) (hf : i64in first) (hi : i64in i) (hv : i64in v) (w : World) :
    Calls Try.prog 7 #[.int .i64 n, .int .i64 first, .int .i64 i, .int .i64 v] w fun e w' => e = .returned (.bool true) ∧ Below w.heap.size w w' := by
  have AC := Lib.hid (alive_c w)
  have BG := Lib.hid (begins w)
  have SC := Lib.hid (slot_c first 1000 hf (by omega) (by omega))
  have hfr := slotv_range first 1000 (by omega)
  generalize slotv first 1000 = f at *
  obtain ⟨f0, f1⟩ := hfr
  have HN := Lib.hid hn
  have HV := Lib.hid hv
  obtain ⟨n1, n2⟩ := hn
  obtain ⟨i1, i2⟩ := hi
  have M1 := Lib.hid (fun (W : World) (g : Nat) (h : St w W g 0 QH.empty) => h.make (n := f) (x := 1) (y := true) (by omega) ⟨by omega, by omega⟩ (makeA_of (tk := 0) ⟨f0, by omega⟩) (fits_of (tk := 0) ⟨f0, by omega⟩) (qF1_is f f0 f1))
  clear hf
  by_cases hfit : 0 ≤ n ∧ n ≤ 4611686018427387904 - f - 2
  · obtain ⟨p1, p2⟩ := hfit
    have M2 := Lib.hid (fun (W : World) (g : Nat) (h : St w W g 1 (qF1 f)) => h.make (n := n) (x := f + 1 + 1) (y := true) (q' := qF2 f n) (by omega) HN.out (makeA_of (tk := f + 1) ⟨p1, by omega⟩) (fits_of (tk := f + 1) ⟨p1, by omega⟩) (make_of (q := qF1 f) ⟨p1, by show n < _ - (f + 1); omega⟩))
    have LC := Lib.hid (fun (W : World) (g c : Nat) (h : St w W g c (qF3 f n i v)) => h.len (a := f + 1 + 1) (x := n) (y := true) ⟨by omega, by omega⟩ (qF3_lenA f n i v f0) (qF3_lenB f n i v f0))
    have WC := Lib.hid (fun (W : World) (g c : Nat) (h : St w W g c (qF3 f n i v)) => h.words (x := f + 1 + n + 1) (qF3_tk f n i v))
    have M3 := Lib.hid (fun (W : World) (g : Nat) (h : St w W g 3 (qF3 f n i v)) => h.make (n := 4611686018427387904 - f - 2 - n) (x := 0) (y := false) (q' := qF3 f n i v) (by omega) ⟨by omega, by omega⟩ (by rw [qF3_tk]; exact makeA_no (by omega)) (by rw [qF3_tk]; exact fits_no (by omega)) (make_not (by rw [qF3_tk]; omega)))
    have hin : (0 ≤ i ∧ i < n) ∨ i < 0 ∨ (0 ≤ i ∧ ¬ i < n) := by omega
    have hmo : n = 4611686018427387904 - f - 2 ∨ n ≠ 4611686018427387904 - f - 2 := by omega
    have YS := Lib.hid (fun (h : 0 ≤ i ∧ i < n) => And.intro (fun (W : World) (g : Nat) (h2 : St w W g 2 (qF2 f n)) => h2.set (a := f + 1 + 1) (i := i) (v := v) (y := true) (q' := qF3 f n i v) (by omega) ⟨by omega, by omega⟩ HV.out (by rw [qF2_has]; exact decide_eq_true h) rfl)
      (fun (W : World) (g : Nat) (h2 : St w W g 3 (qF3 f n i v)) => h2.get (a := f + 1 + 1) (i := i) (x := v) (y := true) ⟨by omega, by omega⟩ (qF3_get f n i v h) (by rw [qF3_has]; exact decide_eq_true h)))
    have NS := Lib.hid (fun (h : ¬ (0 ≤ i ∧ i < n)) => And.intro (fun (W : World) (g : Nat) (h2 : St w W g 2 (qF2 f n)) => h2.set (a := f + 1 + 1) (i := i) (v := v) (y := false) (q' := qF3 f n i v) (by omega) ⟨by omega, by omega⟩ HV.out (by rw [qF2_has]; exact decide_eq_false h) rfl)
      (fun (W : World) (g : Nat) (h2 : St w W g 3 (qF3 f n i v)) => h2.get (a := f + 1 + 1) (i := i) (x := 0) (y := false) ⟨by omega, by omega⟩ (qF3_get0 f n i v h) (by rw [qF3_has]; exact decide_eq_false h)))
    have YM := Lib.hid (fun (h : n = 4611686018427387904 - f - 2) (W : World) (g : Nat) (h2 : St w W g 4 (qF3 f n i v)) => h2.make (n := 0) (x := 0) (y := false) (q' := qF3 f n i v) (by omega) ⟨by omega, by omega⟩ (by rw [qF3_tk]; exact makeA_no (by omega)) (by rw [qF3_tk]; exact fits_no (by omega)) (make_not (by rw [qF3_tk]; omega)))
    have NM := Lib.hid (fun (h : n ≠ 4611686018427387904 - f - 2) (W : World) (g : Nat) (h2 : St w W g 4 (qF3 f n i v)) => h2.make (n := 0) (x := f + 1 + n + 2) (y := true) (q' := ⟨upd (qF3 f n i v).sz ((qF3 f n i v).tk + 1) 0, (qF3 f n i v).wd, (qF3 f n i v).tk + 0 + 1⟩) (by omega) ⟨by omega, by omega⟩ (by rw [qF3_tk, makeA_of ⟨by omega, by omega⟩]; omega) (by rw [qF3_tk]; exact fits_of ⟨by omega, by omega⟩) (make_of (by rw [qF3_tk]; omega)))
    have WD := Lib.hid (fun (W : World) (g c : Nat) (h : St w W g c ⟨upd (qF3 f n i v).sz ((qF3 f n i v).tk + 1) 0, (qF3 f n i v).wd, (qF3 f n i v).tk + 0 + 1⟩) => h.words (x := f + 1 + n + 2) (by show (qF3 f n i v).tk + 0 + 1 = _; rw [qF3_tk]; omega))
    clear HN HV
    rcases hmo with hm | hm
    · have E4 := Lib.hid (YM.out hm)
      have hm' : (n == 4611686018427387904 - f - 2) = true := beq_iff_eq.2 hm
      clear YM NM WD hm
      rcases hin with hc | hc | hc
      · have E2 := Lib.hid (YS.out hc).1
        have E3 := Lib.hid (YS.out hc).2
        obtain ⟨hc1, hc2⟩ := hc
        have hd1 := decide_eq_true hc1
        have hd2 := decide_eq_true hc2
        have hd3 := decide_eq_true p1
        have hd4 := decide_eq_true p2
        clear YS NS
        go_enter Try.func7, Try.ntmps7
        go_wp2_with fail
        refine AC.out.mono ?_
        rintro e w1 ⟨rfl, hb⟩
        have HB := Lib.hid hb
        clear hb
        go_wp2_with (first
          | (go_at_call 13; refine (BG.out _ HB.out).mono ?_; rintro e w2 ⟨g, rfl, S0⟩)
          | (go_at_call 14; refine (SC.out _).mono ?_; rintro e w3 ⟨rfl, rfl⟩)
          | (go_at_call 15; refine (M1.out _ _ S0.out).mono ?_; rintro e w4 ⟨rfl, S1⟩; clear S0)
          | (go_at_call 15; refine (M2.out _ _ S1.out).mono ?_; rintro e w5 ⟨rfl, S2⟩; clear S1)
          | (go_at_call 16; refine (E2.out _ _ S2.out).mono ?_; rintro e w6 ⟨rfl, S3⟩; clear S2)
          | (go_at_call 18; refine (E3.out _ _ S3.out).mono ?_; rintro e w7 ⟨rfl, rfl⟩)
          | (go_at_call 17; refine (LC.out _ _ _ S3.out).mono ?_; rintro e w8 ⟨rfl, rfl⟩)
          | (go_at_call 19; refine (WC.out _ _ _ S3.out).mono ?_; rintro e w9 ⟨rfl, rfl⟩)
          | (go_at_call 15; refine (M3.out _ _ S3.out).mono ?_; rintro e w10 ⟨rfl, S4⟩; clear S3)
          | (go_at_call 15; refine (E4.out _ _ S4.out).mono ?_; rintro e w11 ⟨rfl, S5⟩; clear S4))
        go_ret
        exact ⟨rfl, S5.out.1⟩
      · have E2 := Lib.hid (NS.out (by omega)).1
        have E3 := Lib.hid (NS.out (by omega)).2
        have hd3 := decide_eq_true p1
        have hd4 := decide_eq_true p2
        try have hd1 := decide_eq_false (show ¬ 0 ≤ i from by omega)
        try have hd1 := decide_eq_true hc.1
        try have hd2 := decide_eq_false hc.2
        clear YS NS
        go_enter Try.func7, Try.ntmps7
        go_wp2_with fail
        refine AC.out.mono ?_
        rintro e w1 ⟨rfl, hb⟩
        have HB := Lib.hid hb
        clear hb
        go_wp2_with (first
          | (go_at_call 13; refine (BG.out _ HB.out).mono ?_; rintro e w2 ⟨g, rfl, S0⟩)
          | (go_at_call 14; refine (SC.out _).mono ?_; rintro e w3 ⟨rfl, rfl⟩)
          | (go_at_call 15; refine (M1.out _ _ S0.out).mono ?_; rintro e w4 ⟨rfl, S1⟩; clear S0)
          | (go_at_call 15; refine (M2.out _ _ S1.out).mono ?_; rintro e w5 ⟨rfl, S2⟩; clear S1)
          | (go_at_call 16; refine (E2.out _ _ S2.out).mono ?_; rintro e w6 ⟨rfl, S3⟩; clear S2)
          | (go_at_call 18; refine (E3.out _ _ S3.out).mono ?_; rintro e w7 ⟨rfl, rfl⟩)
          | (go_at_call 17; refine (LC.out _ _ _ S3.out).mono ?_; rintro e w8 ⟨rfl, rfl⟩)
          | (go_at_call 19; refine (WC.out _ _ _ S3.out).mono ?_; rintro e w9 ⟨rfl, rfl⟩)
          | (go_at_call 15; refine (M3.out _ _ S3.out).mono ?_; rintro e w10 ⟨rfl, S4⟩; clear S3)
          | (go_at_call 15; refine (E4.out _ _ S4.out).mono ?_; rintro e w11 ⟨rfl, S5⟩; clear S4))
        go_ret
        exact ⟨rfl, S5.out.1⟩
      · have E2 := Lib.hid (NS.out (by omega)).1
        have E3 := Lib.hid (NS.out (by omega)).2
        have hd3 := decide_eq_true p1
        have hd4 := decide_eq_true p2
        try have hd1 := decide_eq_false (show ¬ 0 ≤ i from by omega)
        try have hd1 := decide_eq_true hc.1
        try have hd2 := decide_eq_false hc.2
        clear YS NS
        go_enter Try.func7, Try.ntmps7
        go_wp2_with fail
        refine AC.out.mono ?_
        rintro e w1 ⟨rfl, hb⟩
        have HB := Lib.hid hb
        clear hb
        go_wp2_with (first
          | (go_at_call 13; refine (BG.out _ HB.out).mono ?_; rintro e w2 ⟨g, rfl, S0⟩)
          | (go_at_call 14; refine (SC.out _).mono ?_; rintro e w3 ⟨rfl, rfl⟩)
          | (go_at_call 15; refine (M1.out _ _ S0.out).mono ?_; rintro e w4 ⟨rfl, S1⟩; clear S0)
          | (go_at_call 15; refine (M2.out _ _ S1.out).mono ?_; rintro e w5 ⟨rfl, S2⟩; clear S1)
          | (go_at_call 16; refine (E2.out _ _ S2.out).mono ?_; rintro e w6 ⟨rfl, S3⟩; clear S2)
          | (go_at_call 18; refine (E3.out _ _ S3.out).mono ?_; rintro e w7 ⟨rfl, rfl⟩)
          | (go_at_call 17; refine (LC.out _ _ _ S3.out).mono ?_; rintro e w8 ⟨rfl, rfl⟩)
          | (go_at_call 19; refine (WC.out _ _ _ S3.out).mono ?_; rintro e w9 ⟨rfl, rfl⟩)
          | (go_at_call 15; refine (M3.out _ _ S3.out).mono ?_; rintro e w10 ⟨rfl, S4⟩; clear S3)
          | (go_at_call 15; refine (E4.out _ _ S4.out).mono ?_; rintro e w11 ⟨rfl, S5⟩; clear S4))
        go_ret
        exact ⟨rfl, S5.out.1⟩
    · have E4 := Lib.hid (NM.out hm)
      have hm' : (n == 4611686018427387904 - f - 2) = false := beq_eq_false_iff_ne.2 hm
      clear YM NM hm
      rcases hin with hc | hc | hc
      · have E2 := Lib.hid (YS.out hc).1
        have E3 := Lib.hid (YS.out hc).2
        obtain ⟨hc1, hc2⟩ := hc
        have hd1 := decide_eq_true hc1
        have hd2 := decide_eq_true hc2
        have hd3 := decide_eq_true p1
        have hd4 := decide_eq_true p2
        clear YS NS
        go_enter Try.func7, Try.ntmps7
        go_wp2_with fail
        refine AC.out.mono ?_
        rintro e w1 ⟨rfl, hb⟩
        have HB := Lib.hid hb
        clear hb
        go_wp2_with (first
          | (go_at_call 13; refine (BG.out _ HB.out).mono ?_; rintro e w2 ⟨g, rfl, S0⟩)
          | (go_at_call 14; refine (SC.out _).mono ?_; rintro e w3 ⟨rfl, rfl⟩)
          | (go_at_call 15; refine (M1.out _ _ S0.out).mono ?_; rintro e w4 ⟨rfl, S1⟩; clear S0)
          | (go_at_call 15; refine (M2.out _ _ S1.out).mono ?_; rintro e w5 ⟨rfl, S2⟩; clear S1)
          | (go_at_call 16; refine (E2.out _ _ S2.out).mono ?_; rintro e w6 ⟨rfl, S3⟩; clear S2)
          | (go_at_call 18; refine (E3.out _ _ S3.out).mono ?_; rintro e w7 ⟨rfl, rfl⟩)
          | (go_at_call 17; refine (LC.out _ _ _ S3.out).mono ?_; rintro e w8 ⟨rfl, rfl⟩)
          | (go_at_call 19; refine (WC.out _ _ _ S3.out).mono ?_; rintro e w9 ⟨rfl, rfl⟩)
          | (go_at_call 15; refine (M3.out _ _ S3.out).mono ?_; rintro e w10 ⟨rfl, S4⟩; clear S3)
          | (go_at_call 15; refine (E4.out _ _ S4.out).mono ?_; rintro e w11 ⟨rfl, S5⟩; clear S4)
          | (go_at_call 19; refine (WD.out _ _ _ S5.out).mono ?_; rintro e w12 ⟨rfl, rfl⟩))
        go_ret
        exact ⟨rfl, S5.out.1⟩
      · have E2 := Lib.hid (NS.out (by omega)).1
        have E3 := Lib.hid (NS.out (by omega)).2
        have hd3 := decide_eq_true p1
        have hd4 := decide_eq_true p2
        try have hd1 := decide_eq_false (show ¬ 0 ≤ i from by omega)
        try have hd1 := decide_eq_true hc.1
        try have hd2 := decide_eq_false hc.2
        clear YS NS
        go_enter Try.func7, Try.ntmps7
        go_wp2_with fail
        refine AC.out.mono ?_
        rintro e w1 ⟨rfl, hb⟩
        have HB := Lib.hid hb
        clear hb
        go_wp2_with (first
          | (go_at_call 13; refine (BG.out _ HB.out).mono ?_; rintro e w2 ⟨g, rfl, S0⟩)
          | (go_at_call 14; refine (SC.out _).mono ?_; rintro e w3 ⟨rfl, rfl⟩)
          | (go_at_call 15; refine (M1.out _ _ S0.out).mono ?_; rintro e w4 ⟨rfl, S1⟩; clear S0)
          | (go_at_call 15; refine (M2.out _ _ S1.out).mono ?_; rintro e w5 ⟨rfl, S2⟩; clear S1)
          | (go_at_call 16; refine (E2.out _ _ S2.out).mono ?_; rintro e w6 ⟨rfl, S3⟩; clear S2)
          | (go_at_call 18; refine (E3.out _ _ S3.out).mono ?_; rintro e w7 ⟨rfl, rfl⟩)
          | (go_at_call 17; refine (LC.out _ _ _ S3.out).mono ?_; rintro e w8 ⟨rfl, rfl⟩)
          | (go_at_call 19; refine (WC.out _ _ _ S3.out).mono ?_; rintro e w9 ⟨rfl, rfl⟩)
          | (go_at_call 15; refine (M3.out _ _ S3.out).mono ?_; rintro e w10 ⟨rfl, S4⟩; clear S3)
          | (go_at_call 15; refine (E4.out _ _ S4.out).mono ?_; rintro e w11 ⟨rfl, S5⟩; clear S4)
          | (go_at_call 19; refine (WD.out _ _ _ S5.out).mono ?_; rintro e w12 ⟨rfl, rfl⟩))
        go_ret
        exact ⟨rfl, S5.out.1⟩
      · have E2 := Lib.hid (NS.out (by omega)).1
        have E3 := Lib.hid (NS.out (by omega)).2
        have hd3 := decide_eq_true p1
        have hd4 := decide_eq_true p2
        try have hd1 := decide_eq_false (show ¬ 0 ≤ i from by omega)
        try have hd1 := decide_eq_true hc.1
        try have hd2 := decide_eq_false hc.2
        clear YS NS
        go_enter Try.func7, Try.ntmps7
        go_wp2_with fail
        refine AC.out.mono ?_
        rintro e w1 ⟨rfl, hb⟩
        have HB := Lib.hid hb
        clear hb
        go_wp2_with (first
          | (go_at_call 13; refine (BG.out _ HB.out).mono ?_; rintro e w2 ⟨g, rfl, S0⟩)
          | (go_at_call 14; refine (SC.out _).mono ?_; rintro e w3 ⟨rfl, rfl⟩)
          | (go_at_call 15; refine (M1.out _ _ S0.out).mono ?_; rintro e w4 ⟨rfl, S1⟩; clear S0)
          | (go_at_call 15; refine (M2.out _ _ S1.out).mono ?_; rintro e w5 ⟨rfl, S2⟩; clear S1)
          | (go_at_call 16; refine (E2.out _ _ S2.out).mono ?_; rintro e w6 ⟨rfl, S3⟩; clear S2)
          | (go_at_call 18; refine (E3.out _ _ S3.out).mono ?_; rintro e w7 ⟨rfl, rfl⟩)
          | (go_at_call 17; refine (LC.out _ _ _ S3.out).mono ?_; rintro e w8 ⟨rfl, rfl⟩)
          | (go_at_call 19; refine (WC.out _ _ _ S3.out).mono ?_; rintro e w9 ⟨rfl, rfl⟩)
          | (go_at_call 15; refine (M3.out _ _ S3.out).mono ?_; rintro e w10 ⟨rfl, S4⟩; clear S3)
          | (go_at_call 15; refine (E4.out _ _ S4.out).mono ?_; rintro e w11 ⟨rfl, S5⟩; clear S4)
          | (go_at_call 19; refine (WD.out _ _ _ S5.out).mono ?_; rintro e w12 ⟨rfl, rfl⟩))
        go_ret
        exact ⟨rfl, S5.out.1⟩
  · have M2 := Lib.hid (fun (W : World) (g : Nat) (h : St w W g 1 (qF1 f)) => h.make (n := n) (x := 0) (y := false) (q' := qF1 f) (by omega) HN.out (makeA_no (tk := f + 1) (by omega)) (fits_no (tk := f + 1) (by omega)) (make_not (q := qF1 f) (by show ¬ (_ ∧ n < _ - (f + 1)); omega)))
    have M3 := Lib.hid (fun (W : World) (g : Nat) (h : St w W g 2 (qF1 f)) => h.make (n := 1) (x := f + 1 + 1) (y := true) (q' := ⟨upd (qF1 f).sz (f + 1 + 1) 1, (qF1 f).wd, f + 1 + 1 + 1⟩) (by omega) ⟨by omega, by omega⟩ (makeA_of (tk := f + 1) ⟨by omega, by omega⟩) (fits_of (tk := f + 1) ⟨by omega, by omega⟩) (make_of (q := qF1 f) ⟨by omega, by show 1 < _ - (f + 1); omega⟩))
    have WC := Lib.hid (fun (W : World) (g c : Nat) (h : St w W g c ⟨upd (qF1 f).sz (f + 1 + 1) 1, (qF1 f).wd, f + 1 + 1 + 1⟩) => h.words (x := f + 1 + 2) (by show f + 1 + 1 + 1 = _; omega))
    have hcase : n < 0 ∨ (0 ≤ n ∧ ¬ n ≤ 4611686018427387904 - f - 2) := by omega
    clear hfit HN HV
    rcases hcase with hc | ⟨hc0, hc⟩
    all_goals
      try have hd := decide_eq_false hc
      try have hd0 : decide (0 ≤ n) = true := decide_eq_true hc0
      go_enter Try.func7, Try.ntmps7
      go_wp2_with fail
      refine AC.out.mono ?_
      rintro e w1 ⟨rfl, hb⟩
      have HB := Lib.hid hb
      clear hb
      go_wp2_with (first
        | (go_at_call 13; refine (BG.out _ HB.out).mono ?_; rintro e w2 ⟨g, rfl, S0⟩)
        | (go_at_call 14; refine (SC.out _).mono ?_; rintro e w3 ⟨rfl, rfl⟩)
        | (go_at_call 15; refine (M1.out _ _ S0.out).mono ?_; rintro e w4 ⟨rfl, S1⟩; clear S0)
        | (go_at_call 15; refine (M2.out _ _ S1.out).mono ?_; rintro e w5 ⟨rfl, S2⟩; clear S1)
        | (go_at_call 15; refine (M3.out _ _ S2.out).mono ?_; rintro e w6 ⟨rfl, S3⟩; clear S2)
        | (go_at_call 19; refine (WC.out _ _ _ S3.out).mono ?_; rintro e w7 ⟨rfl, rfl⟩))
      go_ret
      exact ⟨rfl, S3.out.1⟩
end Go.Proofs.Ytoakmifihofpeaa
