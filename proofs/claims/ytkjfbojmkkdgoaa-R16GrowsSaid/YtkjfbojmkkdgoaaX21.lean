/- r16's New: the walk. -/
import Derived.Test.YtkjfbojmkkdgoaaX20
import Derived.BigQuiet
import Derived.Deep.QuietTactic
set_option linter.unusedVariables false
set_option linter.unusedSimpArgs false
namespace Go.Proofs.Ytkjfbojmkkdgoaa
open Go.RowKit
attribute [local go_sem ↓] Go.wp_at_zero Go.wp_at_succ
def machA (vi vf : Value) (m : Int) (vn : Value) (sl hl : Int) (hp : Nat) : Array Value := #[vi, vf, .int .i64 m, vn, .int .i64 sl, .int .i64 hl, .nilFunc, .func (Go.Fn.func 52) #[] #[], .func (Go.Fn.func 53) #[] #[], .func (Go.Fn.func 51) #[] #[], .func (Go.Fn.func 51) #[] #[], .func (Go.Fn.func 51) #[] #[], .func (Go.Fn.func 54) #[] #[], .func (Go.Fn.func 54) #[] #[], .func (Go.Fn.func 51) #[] #[], .func (Go.Fn.func 51) #[] #[], .func (Go.Fn.func 51) #[] #[], .func (Go.Fn.func 51) #[] #[], .func (Go.Fn.func 55) #[] #[], .func (Go.Fn.func 55) #[] #[], .func (Go.Fn.func 51) #[] #[], .func (Go.Fn.func 51) #[] #[], .func (Go.Fn.func 51) #[] #[], .func (Go.Fn.func 51) #[] #[], .func (Go.Fn.func 56) #[] #[], .func (Go.Fn.func 56) #[] #[], .func (Go.Fn.func 57) #[] #[], .func (Go.Fn.func 58) #[] #[], .func (Go.Fn.func 59) #[] #[], .func (Go.Fn.func 60) #[] #[], .func (Go.Fn.func 61) #[] #[], .func (Go.Fn.func 62) #[] #[], .func (Go.Fn.func 63) #[] #[], .func (Go.Fn.func 64) #[] #[], .func (Go.Fn.func 65) #[] #[], .func (Go.Fn.func 66) #[] #[], .func (Go.Fn.func 67) #[] #[], .func (Go.Fn.func 68) #[] #[], .func (Go.Fn.func 69) #[] #[], .func (Go.Fn.func 70) #[] #[], .func (Go.Fn.func 71) #[] #[], .func (Go.Fn.func 72) #[] #[], .func (Go.Fn.func 73) #[] #[], .func (Go.Fn.func 74) #[] #[], .func (Go.Fn.func 75) #[] #[], .int .i64 0, .int .i64 0, .int .i64 0, .int .i64 0, .int .i64 0, .int .i64 0, .int .i64 0, .int .i64 0, .int .i64 0, .int .i64 0, .int .i64 0, .int .i64 0, .int .i64 0, .int .i64 0, .int .i64 0, .int .i64 0, .slice none 0 0, .map none, .pointer (some ⟨hp, 0, none⟩), .int .i64 0, .int .i64 0, .int .i64 0, .slice none 0 0, .slice none 0 0, .int .i64 0, .int .i64 0, .int .i64 0, .int .i64 0, .int .i64 0, .int .i64 0]
def machB (vi vf : Value) (m : Int) (vn : Value) (sl hl : Int) (hp gm : Nat) : Array Value := #[vi, vf, .int .i64 m, vn, .int .i64 sl, .int .i64 hl, .nilFunc, .func (Go.Fn.func 52) #[] #[], .func (Go.Fn.func 53) #[] #[], .func (Go.Fn.func 51) #[] #[], .func (Go.Fn.func 51) #[] #[], .func (Go.Fn.func 51) #[] #[], .func (Go.Fn.func 54) #[] #[], .func (Go.Fn.func 54) #[] #[], .func (Go.Fn.func 51) #[] #[], .func (Go.Fn.func 51) #[] #[], .func (Go.Fn.func 51) #[] #[], .func (Go.Fn.func 51) #[] #[], .func (Go.Fn.func 55) #[] #[], .func (Go.Fn.func 55) #[] #[], .func (Go.Fn.func 51) #[] #[], .func (Go.Fn.func 51) #[] #[], .func (Go.Fn.func 51) #[] #[], .func (Go.Fn.func 51) #[] #[], .func (Go.Fn.func 56) #[] #[], .func (Go.Fn.func 56) #[] #[], .func (Go.Fn.func 57) #[] #[], .func (Go.Fn.func 58) #[] #[], .func (Go.Fn.func 59) #[] #[], .func (Go.Fn.func 60) #[] #[], .func (Go.Fn.func 61) #[] #[], .func (Go.Fn.func 62) #[] #[], .func (Go.Fn.func 63) #[] #[], .func (Go.Fn.func 64) #[] #[], .func (Go.Fn.func 65) #[] #[], .func (Go.Fn.func 66) #[] #[], .func (Go.Fn.func 67) #[] #[], .func (Go.Fn.func 68) #[] #[], .func (Go.Fn.func 69) #[] #[], .func (Go.Fn.func 70) #[] #[], .func (Go.Fn.func 71) #[] #[], .func (Go.Fn.func 72) #[] #[], .func (Go.Fn.func 73) #[] #[], .func (Go.Fn.func 74) #[] #[], .func (Go.Fn.func 75) #[] #[], .int .i64 0, .int .i64 0, .int .i64 0, .int .i64 0, .int .i64 0, .int .i64 0, .int .i64 0, .int .i64 0, .int .i64 0, .int .i64 0, .int .i64 0, .int .i64 0, .int .i64 0, .int .i64 0, .int .i64 0, .int .i64 0, .slice none 0 0, .map (some gm), .pointer (some ⟨hp, 0, none⟩), .int .i64 0, .int .i64 0, .int .i64 0, .slice none 0 0, .slice none 0 0, .int .i64 0, .int .i64 0, .int .i64 0, .int .i64 0, .int .i64 0, .int .i64 0]
theorem machB_of (vi vf : Value) (m : Int) (vn : Value) (sl hl : Int) (hp gm : Nat) : (machA vi vf m vn sl hl hp).setIfInBounds 62 (.map (some gm)) = machB vi vf m vn sl hl hp gm := by kernel_rfl
theorem machB_MF (Ai : Option Addr) (ni capI : Nat) (Af : Option Addr) (nf capF : Nat) (m : Int) (An : Option Addr) (xs : List Int) (capN : Nat) (sl hl : Int) (hp gm : Nat) (X : Nat → Ins) (Fs : Nat → Fn) :
    MF (fun k => (machB (.slice Ai ni capI) (.slice Af nf capF) m (.slice An xs.length capN) sl hl hp gm)[k]?.getD undef) { ia := Ai, ic := capI, fa := Af, fc := capF, na := An, nc := capN, row := .slice none 0 0, far := gm, hp := hp, cv := .slice none 0 0, ev := .slice none 0 0 } { ni := ni, X := X, nf := nf, Fs := Fs, mn := m, sl := sl, hl := hl } (q00 xs) :=
  ⟨rfl, rfl, rfl, rfl, rfl, rfl, rfl, rfl, rfl, rfl, rfl, rfl, rfl, rfl, rfl, rfl, rfl, rfl, rfl, rfl, fun k hk => match k, hk with
    | 0, _ => rfl
    | 1, _ => rfl
    | 2, _ => rfl
    | 3, _ => rfl
    | 4, _ => rfl
    | 5, _ => rfl
    | 6, _ => rfl
    | 7, _ => rfl
    | 8, _ => rfl
    | 9, _ => rfl
    | 10, _ => rfl
    | 11, _ => rfl
    | 12, _ => rfl
    | 13, _ => rfl
    | 14, _ => rfl
    | 15, _ => rfl
    | 16, _ => rfl
    | 17, _ => rfl
    | 18, _ => rfl
    | 19, _ => rfl
    | 20, _ => rfl
    | 21, _ => rfl
    | 22, _ => rfl
    | 23, _ => rfl
    | 24, _ => rfl
    | 25, _ => rfl
    | 26, _ => rfl
    | 27, _ => rfl
    | 28, _ => rfl
    | 29, _ => rfl
    | 30, _ => rfl
    | 31, _ => rfl
    | 32, _ => rfl
    | 33, _ => rfl
    | 34, _ => rfl
    | 35, _ => rfl
    | 36, _ => rfl
    | 37, _ => rfl
    | 38, _ => rfl
    | k + 39, h => absurd h (by omega), fun k hk => match k, hk with
    | 0, _ => rfl
    | 1, _ => rfl
    | 2, _ => rfl
    | 3, _ => rfl
    | 4, _ => rfl
    | 5, _ => rfl
    | 6, _ => rfl
    | 7, _ => rfl
    | 8, _ => rfl
    | 9, _ => rfl
    | 10, _ => rfl
    | 11, _ => rfl
    | 12, _ => rfl
    | 13, _ => rfl
    | 14, _ => rfl
    | 15, _ => rfl
    | k + 16, h => absurd h (by omega)⟩
theorem MZ_new {s0 l h g gm : Nat} {w : World} {Ai : Option Addr} {ni capI : Nat} {Af : Option Addr} {nf capF : Nat} {m : Int} {An : Option Addr} {xs : List Int} {capN : Nat} {sl hl : Int} {hp : Nat} {X : Nat → Ins} {Fs : Nat → Fn}
    (hB : Blk w g 87 (machB (.slice Ai ni capI) (.slice Af nf capF) m (.slice An xs.length capN) sl hl hp gm)) (hI : IL w (fun b => l ≤ b ∧ b < h) Ai ni X) (hF : FL w (fun b => l ≤ b ∧ b < h) Af nf Fs) (hN : NL w (fun b => l ≤ b ∧ b < h) An xs) (hH : HeapAt w (fun b => h ≤ b ∧ b < g) hp 0 QH.empty) (hM : IMap Try.prog 3 w gm 0 (fun _ => none))
    (h1 : s0 ≤ l) (h2 : l ≤ h) (h3 : h ≤ g) (h4 : g < gm) (c1 : ni ≤ capI) (c2 : nf ≤ capF) (c3 : xs.length ≤ capN) :
    MZ w (fun b => s0 ≤ b) (fun b => if b = g then 1 else if b = gm then 3 else if h ≤ b ∧ b < g then 4 else if l ≤ b ∧ b < h then 7 else 0) g { ia := Ai, ic := capI, fa := Af, fc := capF, na := An, nc := capN, row := .slice none 0 0, far := gm, hp := hp, cv := .slice none 0 0, ev := .slice none 0 0 } { ni := ni, X := X, nf := nf, Fs := Fs, mn := m, sl := sl, hl := hl } (q00 xs) 0 := by
  have o := Only.refl (fun _ => False) w
  have z7 : ∀ b, l ≤ b ∧ b < h → (if b = g then 1 else if b = gm then 3 else if h ≤ b ∧ b < g then 4 else if l ≤ b ∧ b < h then 7 else 0) = 7 := fun b hb => by
    rw [if_neg (by omega), if_neg (by omega), if_neg (by omega), if_pos hb]
  have z4 : ∀ b, h ≤ b ∧ b < g → (if b = g then 1 else if b = gm then 3 else if h ≤ b ∧ b < g then 4 else if l ≤ b ∧ b < h then 7 else 0) = 4 := fun b hb => by
    rw [if_neg (by omega), if_neg (by omega), if_pos hb]
  have z3 : (if gm = g then 1 else if gm = gm then 3 else if h ≤ gm ∧ gm < g then 4 else if l ≤ gm ∧ gm < h then 7 else 0) = 3 := by
    rw [if_neg (by omega), if_pos rfl]
  refine ⟨fun b hb => ?_, ⟨_, ?_, machB_MF Ai ni capI Af nf capF m An xs capN sl hl hp gm X Fs⟩, if_pos rfl, hI.tr o fun b _ hb => ⟨fun h => h, z7 b hb⟩, c1, hF.tr o fun b _ hb => ⟨fun h => h, z7 b hb⟩, c2, hN.tr o fun b _ hb => ⟨fun h => h, z7 b hb⟩, c3, ?_, hH.tr o fun b _ hb => ⟨fun h => h, z4 b hb⟩, QH.Ok.empty, Row.nil_ _ _ _ _, Row.nil_ _ _ _ _⟩
  · show s0 ≤ b
    by_cases e1 : b = g
    · omega
    by_cases e2 : b = gm
    · omega
    by_cases e3 : h ≤ b ∧ b < g
    · omega
    by_cases e4 : l ≤ b ∧ b < h
    · omega
    exact absurd (show (if b = g then 1 else if b = gm then 3 else if h ≤ b ∧ b < g then 4 else if l ≤ b ∧ b < h then 7 else 0) = 0 by rw [if_neg e1, if_neg e2, if_neg e3, if_neg e4]) hb
  · rw [mArr_of (by rfl)]
    exact hB
  · exact ⟨[], fun _ => none, Row.nil_ _ _ _ _, hM, z3, Nat.zero_le _, fun _ _ => rfl, fun i => rfl⟩
set_option maxRecDepth 100000 in
set_option maxHeartbeats 8000000 in
theorem new_form (w : World) (G : Nat → Prop) (hG : ∀ b, G b → b < w.heap.size) (A : Option Addr) (ni ci : Nat) (X : Nat → Ins) (B : Option Addr) (nf cf : Nat) (Fs : Nat → Fn) (m : Int) (hi : IL w G A ni X) (hci : ni ≤ ci) (hf : FL w G B nf Fs) (hm : i64in m) (hnf : nf ≤ 1000000) (NA : Option Addr) (xs : List Int) (nc : Nat) (hx : NL w G NA xs) (sl hl : Int) (hno : ¬ CodeOk ni X nf Fs m) : Calls Try.prog 19 #[codeV A ni ci B nf cf m, .slice NA xs.length nc, .agg #[.int .i64 sl, .int .i64 hl]] w fun e w' => e = .returned (.tuple #[.pointer none, .int .i64 210]) ∧ Below w.heap.size w w' := by
  have OA : Only (fun _ => False) w ((w.alloc (.cells #[.slice A ni ci, .slice B nf cf, .int .i64 m] 25)).alloc (.cells #[.int .i64 sl, .int .i64 hl] 38)) := ((Only.refl (fun _ => False) w).alloc _).alloc _
  have B3 : Blk ((w.alloc (.cells #[.slice A ni ci, .slice B nf cf, .int .i64 m] 25)).alloc (.cells #[.int .i64 sl, .int .i64 hl] 38)) w.heap.size 25 #[.slice A ni ci, .slice B nf cf, .int .i64 m] := (Blk.new w 25 _).alloc _
  have B5 : Blk ((w.alloc (.cells #[.slice A ni ci, .slice B nf cf, .int .i64 m] 25)).alloc (.cells #[.int .i64 sl, .int .i64 hl] 38)) (w.heap.size + 1) 38 #[.int .i64 sl, .int .i64 hl] := by
    have := Blk.new (w.alloc (.cells #[.slice A ni ci, .slice B nf cf, .int .i64 m] 25)) 38 #[.int .i64 sl, .int .i64 hl]
    rwa [show (w.alloc (.cells #[.slice A ni ci, .slice B nf cf, .int .i64 m] 25)).heap.size = w.heap.size + 1 by simp] at this
  have CC := Lib.hid (check_c _ G (fun b hb => Nat.lt_of_lt_of_le (hG b hb) OA.size) A ni ci X B nf cf Fs m (hi.tr OA fun b _ hb => ⟨fun h => h, hb⟩) hci (hf.tr OA fun b _ hb => ⟨fun h => h, hb⟩) hm hnf)
  have BA := Lib.hid B3
  have BB := Lib.hid B5
  have OO := Lib.hid OA
  clear OA B3 B5 hi hf hG hm hx
  unfold codeV at *
  go_enter Try.func19, Try.ntmps19
  go_wp2_with fail
  generalize World.alloc _ _ = w2 at *
  refine CC.out.mono ?_
  rintro e w3 ⟨r, rfl, hr, hb⟩
  have y0 := (BB.out.below hb BB.out.lt).cell 0
  have y1 := (BB.out.below hb BB.out.lt).cell 1
  simp only [List.getElem?_toArray, List.getElem?_cons_zero, List.getElem?_cons_succ] at y0 y1
  have hr2 : r = 210 := by
    rcases hr with ⟨h1, h2⟩ | ⟨h1, h2⟩
    · exact absurd h2 hno
    · exact h1
  subst hr2
  have HB := Lib.hid hb
  clear hb hr
  go_wp2_with fail
  go_ret2
  exact ⟨rfl, (OO.out.trans (Only.ofBelow (F := fun _ => False) HB.out) fun _ _ h => h).toBelow (Nat.le_refl _) fun _ _ h => h⟩
set_option maxRecDepth 100000 in
set_option maxHeartbeats 8000000 in
theorem new_input (w : World) (G : Nat → Prop) (hG : ∀ b, G b → b < w.heap.size) (A : Option Addr) (ni ci : Nat) (X : Nat → Ins) (B : Option Addr) (nf cf : Nat) (Fs : Nat → Fn) (m : Int) (hi : IL w G A ni X) (hci : ni ≤ ci) (hf : FL w G B nf Fs) (hm : i64in m) (hnf : nf ≤ 1000000) (NA : Option Addr) (xs : List Int) (nc : Nat) (hx : NL w G NA xs) (sl hl : Int) (hok : CodeOk ni X nf Fs m) (hbig : 1048576 < (xs.length : Int)) : Calls Try.prog 19 #[codeV A ni ci B nf cf m, .slice NA xs.length nc, .agg #[.int .i64 sl, .int .i64 hl]] w fun e w' => e = .returned (.tuple #[.pointer none, .int .i64 4]) ∧ Below w.heap.size w w' := by
  have OA : Only (fun _ => False) w ((w.alloc (.cells #[.slice A ni ci, .slice B nf cf, .int .i64 m] 25)).alloc (.cells #[.int .i64 sl, .int .i64 hl] 38)) := ((Only.refl (fun _ => False) w).alloc _).alloc _
  have B3 : Blk ((w.alloc (.cells #[.slice A ni ci, .slice B nf cf, .int .i64 m] 25)).alloc (.cells #[.int .i64 sl, .int .i64 hl] 38)) w.heap.size 25 #[.slice A ni ci, .slice B nf cf, .int .i64 m] := (Blk.new w 25 _).alloc _
  have B5 : Blk ((w.alloc (.cells #[.slice A ni ci, .slice B nf cf, .int .i64 m] 25)).alloc (.cells #[.int .i64 sl, .int .i64 hl] 38)) (w.heap.size + 1) 38 #[.int .i64 sl, .int .i64 hl] := by
    have := Blk.new (w.alloc (.cells #[.slice A ni ci, .slice B nf cf, .int .i64 m] 25)) 38 #[.int .i64 sl, .int .i64 hl]
    rwa [show (w.alloc (.cells #[.slice A ni ci, .slice B nf cf, .int .i64 m] 25)).heap.size = w.heap.size + 1 by simp] at this
  have CC := Lib.hid (check_c _ G (fun b hb => Nat.lt_of_lt_of_le (hG b hb) OA.size) A ni ci X B nf cf Fs m (hi.tr OA fun b _ hb => ⟨fun h => h, hb⟩) hci (hf.tr OA fun b _ hb => ⟨fun h => h, hb⟩) hm hnf)
  have BA := Lib.hid B3
  have BB := Lib.hid B5
  have OO := Lib.hid OA
  clear OA B3 B5 hi hf hG hm hx
  generalize xs.length = L at *
  have hd : decide (1048576 < (L : Int)) = true := decide_eq_true hbig
  unfold codeV at *
  go_enter Try.func19, Try.ntmps19
  go_wp2_with fail
  generalize World.alloc _ _ = w2 at *
  refine CC.out.mono ?_
  rintro e w3 ⟨r, rfl, hr, hb⟩
  have y0 := (BB.out.below hb BB.out.lt).cell 0
  have y1 := (BB.out.below hb BB.out.lt).cell 1
  simp only [List.getElem?_toArray, List.getElem?_cons_zero, List.getElem?_cons_succ] at y0 y1
  have hr2 : r = 0 := by
    rcases hr with ⟨h1, h2⟩ | ⟨h1, h2⟩
    · exact h1
    · exact absurd hok h2
  subst hr2
  have HB := Lib.hid hb
  clear hb hr
  go_wp2_with fail
  go_ret2
  exact ⟨rfl, (OO.out.trans (Only.ofBelow (F := fun _ => False) HB.out) fun _ _ h => h).toBelow (Nat.le_refl _) fun _ _ h => h⟩
set_option maxRecDepth 100000 in
set_option maxHeartbeats 8000000 in
theorem new_lim1 (w : World) (G : Nat → Prop) (hG : ∀ b, G b → b < w.heap.size) (A : Option Addr) (ni ci : Nat) (X : Nat → Ins) (B : Option Addr) (nf cf : Nat) (Fs : Nat → Fn) (m : Int) (hi : IL w G A ni X) (hci : ni ≤ ci) (hf : FL w G B nf Fs) (hm : i64in m) (hnf : nf ≤ 1000000) (NA : Option Addr) (xs : List Int) (nc : Nat) (hx : NL w G NA xs) (sl hl : Int) (hok : CodeOk ni X nf Fs m) (hin : ¬ 1048576 < (xs.length : Int)) (h0 : sl < 0) : Calls Try.prog 19 #[codeV A ni ci B nf cf m, .slice NA xs.length nc, .agg #[.int .i64 sl, .int .i64 hl]] w fun e w' => e = .returned (.tuple #[.pointer none, .int .i64 5]) ∧ Below w.heap.size w w' := by
  have OA : Only (fun _ => False) w ((w.alloc (.cells #[.slice A ni ci, .slice B nf cf, .int .i64 m] 25)).alloc (.cells #[.int .i64 sl, .int .i64 hl] 38)) := ((Only.refl (fun _ => False) w).alloc _).alloc _
  have B3 : Blk ((w.alloc (.cells #[.slice A ni ci, .slice B nf cf, .int .i64 m] 25)).alloc (.cells #[.int .i64 sl, .int .i64 hl] 38)) w.heap.size 25 #[.slice A ni ci, .slice B nf cf, .int .i64 m] := (Blk.new w 25 _).alloc _
  have B5 : Blk ((w.alloc (.cells #[.slice A ni ci, .slice B nf cf, .int .i64 m] 25)).alloc (.cells #[.int .i64 sl, .int .i64 hl] 38)) (w.heap.size + 1) 38 #[.int .i64 sl, .int .i64 hl] := by
    have := Blk.new (w.alloc (.cells #[.slice A ni ci, .slice B nf cf, .int .i64 m] 25)) 38 #[.int .i64 sl, .int .i64 hl]
    rwa [show (w.alloc (.cells #[.slice A ni ci, .slice B nf cf, .int .i64 m] 25)).heap.size = w.heap.size + 1 by simp] at this
  have CC := Lib.hid (check_c _ G (fun b hb => Nat.lt_of_lt_of_le (hG b hb) OA.size) A ni ci X B nf cf Fs m (hi.tr OA fun b _ hb => ⟨fun h => h, hb⟩) hci (hf.tr OA fun b _ hb => ⟨fun h => h, hb⟩) hm hnf)
  have BA := Lib.hid B3
  have BB := Lib.hid B5
  have OO := Lib.hid OA
  clear OA B3 B5 hi hf hG hm hx
  generalize xs.length = L at *
  have hd : decide (1048576 < (L : Int)) = false := decide_eq_false hin
  have d0 : decide (sl < 0) = true := decide_eq_true h0
  unfold codeV at *
  go_enter Try.func19, Try.ntmps19
  go_wp2_with fail
  generalize World.alloc _ _ = w2 at *
  refine CC.out.mono ?_
  rintro e w3 ⟨r, rfl, hr, hb⟩
  have y0 := (BB.out.below hb BB.out.lt).cell 0
  have y1 := (BB.out.below hb BB.out.lt).cell 1
  simp only [List.getElem?_toArray, List.getElem?_cons_zero, List.getElem?_cons_succ] at y0 y1
  have hr2 : r = 0 := by
    rcases hr with ⟨h1, h2⟩ | ⟨h1, h2⟩
    · exact h1
    · exact absurd hok h2
  subst hr2
  have HB := Lib.hid hb
  clear hb hr
  go_wp2_with fail
  go_ret2
  exact ⟨rfl, (OO.out.trans (Only.ofBelow (F := fun _ => False) HB.out) fun _ _ h => h).toBelow (Nat.le_refl _) fun _ _ h => h⟩
set_option maxRecDepth 100000 in
set_option maxHeartbeats 8000000 in
theorem new_lim2 (w : World) (G : Nat → Prop) (hG : ∀ b, G b → b < w.heap.size) (A : Option Addr) (ni ci : Nat) (X : Nat → Ins) (B : Option Addr) (nf cf : Nat) (Fs : Nat → Fn) (m : Int) (hi : IL w G A ni X) (hci : ni ≤ ci) (hf : FL w G B nf Fs) (hm : i64in m) (hnf : nf ≤ 1000000) (NA : Option Addr) (xs : List Int) (nc : Nat) (hx : NL w G NA xs) (sl hl : Int) (hok : CodeOk ni X nf Fs m) (hin : ¬ 1048576 < (xs.length : Int)) (h0 : ¬ sl < 0) (h1 : 1099511627776 < sl) : Calls Try.prog 19 #[codeV A ni ci B nf cf m, .slice NA xs.length nc, .agg #[.int .i64 sl, .int .i64 hl]] w fun e w' => e = .returned (.tuple #[.pointer none, .int .i64 5]) ∧ Below w.heap.size w w' := by
  have OA : Only (fun _ => False) w ((w.alloc (.cells #[.slice A ni ci, .slice B nf cf, .int .i64 m] 25)).alloc (.cells #[.int .i64 sl, .int .i64 hl] 38)) := ((Only.refl (fun _ => False) w).alloc _).alloc _
  have B3 : Blk ((w.alloc (.cells #[.slice A ni ci, .slice B nf cf, .int .i64 m] 25)).alloc (.cells #[.int .i64 sl, .int .i64 hl] 38)) w.heap.size 25 #[.slice A ni ci, .slice B nf cf, .int .i64 m] := (Blk.new w 25 _).alloc _
  have B5 : Blk ((w.alloc (.cells #[.slice A ni ci, .slice B nf cf, .int .i64 m] 25)).alloc (.cells #[.int .i64 sl, .int .i64 hl] 38)) (w.heap.size + 1) 38 #[.int .i64 sl, .int .i64 hl] := by
    have := Blk.new (w.alloc (.cells #[.slice A ni ci, .slice B nf cf, .int .i64 m] 25)) 38 #[.int .i64 sl, .int .i64 hl]
    rwa [show (w.alloc (.cells #[.slice A ni ci, .slice B nf cf, .int .i64 m] 25)).heap.size = w.heap.size + 1 by simp] at this
  have CC := Lib.hid (check_c _ G (fun b hb => Nat.lt_of_lt_of_le (hG b hb) OA.size) A ni ci X B nf cf Fs m (hi.tr OA fun b _ hb => ⟨fun h => h, hb⟩) hci (hf.tr OA fun b _ hb => ⟨fun h => h, hb⟩) hm hnf)
  have BA := Lib.hid B3
  have BB := Lib.hid B5
  have OO := Lib.hid OA
  clear OA B3 B5 hi hf hG hm hx
  generalize xs.length = L at *
  have hd : decide (1048576 < (L : Int)) = false := decide_eq_false hin
  have d0 : decide (sl < 0) = false := decide_eq_false h0
  have d1 : decide (1099511627776 < sl) = true := decide_eq_true h1
  unfold codeV at *
  go_enter Try.func19, Try.ntmps19
  go_wp2_with fail
  generalize World.alloc _ _ = w2 at *
  refine CC.out.mono ?_
  rintro e w3 ⟨r, rfl, hr, hb⟩
  have y0 := (BB.out.below hb BB.out.lt).cell 0
  have y1 := (BB.out.below hb BB.out.lt).cell 1
  simp only [List.getElem?_toArray, List.getElem?_cons_zero, List.getElem?_cons_succ] at y0 y1
  have hr2 : r = 0 := by
    rcases hr with ⟨h1, h2⟩ | ⟨h1, h2⟩
    · exact h1
    · exact absurd hok h2
  subst hr2
  have HB := Lib.hid hb
  clear hb hr
  go_wp2_with fail
  go_ret2
  exact ⟨rfl, (OO.out.trans (Only.ofBelow (F := fun _ => False) HB.out) fun _ _ h => h).toBelow (Nat.le_refl _) fun _ _ h => h⟩
set_option maxRecDepth 100000 in
set_option maxHeartbeats 8000000 in
theorem new_lim3 (w : World) (G : Nat → Prop) (hG : ∀ b, G b → b < w.heap.size) (A : Option Addr) (ni ci : Nat) (X : Nat → Ins) (B : Option Addr) (nf cf : Nat) (Fs : Nat → Fn) (m : Int) (hi : IL w G A ni X) (hci : ni ≤ ci) (hf : FL w G B nf Fs) (hm : i64in m) (hnf : nf ≤ 1000000) (NA : Option Addr) (xs : List Int) (nc : Nat) (hx : NL w G NA xs) (sl hl : Int) (hok : CodeOk ni X nf Fs m) (hin : ¬ 1048576 < (xs.length : Int)) (h0 : ¬ sl < 0) (h1 : ¬ 1099511627776 < sl) (h2 : hl < 0) : Calls Try.prog 19 #[codeV A ni ci B nf cf m, .slice NA xs.length nc, .agg #[.int .i64 sl, .int .i64 hl]] w fun e w' => e = .returned (.tuple #[.pointer none, .int .i64 5]) ∧ Below w.heap.size w w' := by
  have OA : Only (fun _ => False) w ((w.alloc (.cells #[.slice A ni ci, .slice B nf cf, .int .i64 m] 25)).alloc (.cells #[.int .i64 sl, .int .i64 hl] 38)) := ((Only.refl (fun _ => False) w).alloc _).alloc _
  have B3 : Blk ((w.alloc (.cells #[.slice A ni ci, .slice B nf cf, .int .i64 m] 25)).alloc (.cells #[.int .i64 sl, .int .i64 hl] 38)) w.heap.size 25 #[.slice A ni ci, .slice B nf cf, .int .i64 m] := (Blk.new w 25 _).alloc _
  have B5 : Blk ((w.alloc (.cells #[.slice A ni ci, .slice B nf cf, .int .i64 m] 25)).alloc (.cells #[.int .i64 sl, .int .i64 hl] 38)) (w.heap.size + 1) 38 #[.int .i64 sl, .int .i64 hl] := by
    have := Blk.new (w.alloc (.cells #[.slice A ni ci, .slice B nf cf, .int .i64 m] 25)) 38 #[.int .i64 sl, .int .i64 hl]
    rwa [show (w.alloc (.cells #[.slice A ni ci, .slice B nf cf, .int .i64 m] 25)).heap.size = w.heap.size + 1 by simp] at this
  have CC := Lib.hid (check_c _ G (fun b hb => Nat.lt_of_lt_of_le (hG b hb) OA.size) A ni ci X B nf cf Fs m (hi.tr OA fun b _ hb => ⟨fun h => h, hb⟩) hci (hf.tr OA fun b _ hb => ⟨fun h => h, hb⟩) hm hnf)
  have BA := Lib.hid B3
  have BB := Lib.hid B5
  have OO := Lib.hid OA
  clear OA B3 B5 hi hf hG hm hx
  generalize xs.length = L at *
  have hd : decide (1048576 < (L : Int)) = false := decide_eq_false hin
  have d0 : decide (sl < 0) = false := decide_eq_false h0
  have d1 : decide (1099511627776 < sl) = false := decide_eq_false h1
  have d2 : decide (hl < 0) = true := decide_eq_true h2
  unfold codeV at *
  go_enter Try.func19, Try.ntmps19
  go_wp2_with fail
  generalize World.alloc _ _ = w2 at *
  refine CC.out.mono ?_
  rintro e w3 ⟨r, rfl, hr, hb⟩
  have y0 := (BB.out.below hb BB.out.lt).cell 0
  have y1 := (BB.out.below hb BB.out.lt).cell 1
  simp only [List.getElem?_toArray, List.getElem?_cons_zero, List.getElem?_cons_succ] at y0 y1
  have hr2 : r = 0 := by
    rcases hr with ⟨h1, h2⟩ | ⟨h1, h2⟩
    · exact h1
    · exact absurd hok h2
  subst hr2
  have HB := Lib.hid hb
  clear hb hr
  go_wp2_with fail
  go_ret2
  exact ⟨rfl, (OO.out.trans (Only.ofBelow (F := fun _ => False) HB.out) fun _ _ h => h).toBelow (Nat.le_refl _) fun _ _ h => h⟩
set_option maxRecDepth 100000 in
set_option maxHeartbeats 8000000 in
theorem new_lim4 (w : World) (G : Nat → Prop) (hG : ∀ b, G b → b < w.heap.size) (A : Option Addr) (ni ci : Nat) (X : Nat → Ins) (B : Option Addr) (nf cf : Nat) (Fs : Nat → Fn) (m : Int) (hi : IL w G A ni X) (hci : ni ≤ ci) (hf : FL w G B nf Fs) (hm : i64in m) (hnf : nf ≤ 1000000) (NA : Option Addr) (xs : List Int) (nc : Nat) (hx : NL w G NA xs) (sl hl : Int) (hok : CodeOk ni X nf Fs m) (hin : ¬ 1048576 < (xs.length : Int)) (h0 : ¬ sl < 0) (h1 : ¬ 1099511627776 < sl) (h2 : ¬ hl < 0) (h3 : 1099511627776 < hl) : Calls Try.prog 19 #[codeV A ni ci B nf cf m, .slice NA xs.length nc, .agg #[.int .i64 sl, .int .i64 hl]] w fun e w' => e = .returned (.tuple #[.pointer none, .int .i64 5]) ∧ Below w.heap.size w w' := by
  have OA : Only (fun _ => False) w ((w.alloc (.cells #[.slice A ni ci, .slice B nf cf, .int .i64 m] 25)).alloc (.cells #[.int .i64 sl, .int .i64 hl] 38)) := ((Only.refl (fun _ => False) w).alloc _).alloc _
  have B3 : Blk ((w.alloc (.cells #[.slice A ni ci, .slice B nf cf, .int .i64 m] 25)).alloc (.cells #[.int .i64 sl, .int .i64 hl] 38)) w.heap.size 25 #[.slice A ni ci, .slice B nf cf, .int .i64 m] := (Blk.new w 25 _).alloc _
  have B5 : Blk ((w.alloc (.cells #[.slice A ni ci, .slice B nf cf, .int .i64 m] 25)).alloc (.cells #[.int .i64 sl, .int .i64 hl] 38)) (w.heap.size + 1) 38 #[.int .i64 sl, .int .i64 hl] := by
    have := Blk.new (w.alloc (.cells #[.slice A ni ci, .slice B nf cf, .int .i64 m] 25)) 38 #[.int .i64 sl, .int .i64 hl]
    rwa [show (w.alloc (.cells #[.slice A ni ci, .slice B nf cf, .int .i64 m] 25)).heap.size = w.heap.size + 1 by simp] at this
  have CC := Lib.hid (check_c _ G (fun b hb => Nat.lt_of_lt_of_le (hG b hb) OA.size) A ni ci X B nf cf Fs m (hi.tr OA fun b _ hb => ⟨fun h => h, hb⟩) hci (hf.tr OA fun b _ hb => ⟨fun h => h, hb⟩) hm hnf)
  have BA := Lib.hid B3
  have BB := Lib.hid B5
  have OO := Lib.hid OA
  clear OA B3 B5 hi hf hG hm hx
  generalize xs.length = L at *
  have hd : decide (1048576 < (L : Int)) = false := decide_eq_false hin
  have d0 : decide (sl < 0) = false := decide_eq_false h0
  have d1 : decide (1099511627776 < sl) = false := decide_eq_false h1
  have d2 : decide (hl < 0) = false := decide_eq_false h2
  have d3 : decide (1099511627776 < hl) = true := decide_eq_true h3
  unfold codeV at *
  go_enter Try.func19, Try.ntmps19
  go_wp2_with fail
  generalize World.alloc _ _ = w2 at *
  refine CC.out.mono ?_
  rintro e w3 ⟨r, rfl, hr, hb⟩
  have y0 := (BB.out.below hb BB.out.lt).cell 0
  have y1 := (BB.out.below hb BB.out.lt).cell 1
  simp only [List.getElem?_toArray, List.getElem?_cons_zero, List.getElem?_cons_succ] at y0 y1
  have hr2 : r = 0 := by
    rcases hr with ⟨h1, h2⟩ | ⟨h1, h2⟩
    · exact h1
    · exact absurd hok h2
  subst hr2
  have HB := Lib.hid hb
  clear hb hr
  go_wp2_with fail
  go_ret2
  exact ⟨rfl, (OO.out.trans (Only.ofBelow (F := fun _ => False) HB.out) fun _ _ h => h).toBelow (Nat.le_refl _) fun _ _ h => h⟩
set_option maxRecDepth 100000 in
set_option maxHeartbeats 8000000 in
theorem new_ok (w : World) (G : Nat → Prop) (hG : ∀ b, G b → b < w.heap.size) (A : Option Addr) (ni ci : Nat) (X : Nat → Ins) (B : Option Addr) (nf cf : Nat) (Fs : Nat → Fn) (m : Int) (hi : IL w G A ni X) (hci : ni ≤ ci) (hf : FL w G B nf Fs) (hm : i64in m) (hnf : nf ≤ 1000000) (NA : Option Addr) (xs : List Int) (nc : Nat) (hx : NL w G NA xs) (sl hl : Int) (hok : CodeOk ni X nf Fs m) (hin : ¬ 1048576 < (xs.length : Int)) (h0 : ¬ sl < 0) (h1 : ¬ 1099511627776 < sl) (h2 : ¬ hl < 0) (h3 : ¬ 1099511627776 < hl) (hA : A = none → ci = 0) (hB : B = none → cf = 0) (hN : NA = none → nc = 0) (hxs : ∀ x ∈ xs, i64in x) (hni : ni ≤ 1000000000) : Calls Try.prog 19 #[codeV A ni ci B nf cf m, .slice NA xs.length nc, .agg #[.int .i64 sl, .int .i64 hl]] w fun e w' => ∃ g, e = .returned (.tuple #[.pointer (some ⟨g, 0, none⟩), .int .i64 0]) ∧ MO w' (fun b => w.heap.size ≤ b) g ({ ni := ni, X := X, nf := nf, Fs := Fs, mn := m, sl := sl, hl := hl } : MK) (newQ ({ ni := ni, X := X, nf := nf, Fs := Fs, mn := m, sl := sl, hl := hl } : MK) xs) ∧ Below w.heap.size w w' := by
  obtain ⟨mn, rfl⟩ := Int.eq_ofNat_of_zero_le hok.2.2.1
  have OA : Only (fun _ => False) w ((w.alloc (.cells #[.slice A ni ci, .slice B nf cf, .int .i64 (mn : Int)] 25)).alloc (.cells #[.int .i64 sl, .int .i64 hl] 38)) := ((Only.refl (fun _ => False) w).alloc _).alloc _
  have B3 : Blk ((w.alloc (.cells #[.slice A ni ci, .slice B nf cf, .int .i64 (mn : Int)] 25)).alloc (.cells #[.int .i64 sl, .int .i64 hl] 38)) w.heap.size 25 #[.slice A ni ci, .slice B nf cf, .int .i64 (mn : Int)] := (Blk.new w 25 _).alloc _
  have B5 : Blk ((w.alloc (.cells #[.slice A ni ci, .slice B nf cf, .int .i64 (mn : Int)] 25)).alloc (.cells #[.int .i64 sl, .int .i64 hl] 38)) (w.heap.size + 1) 38 #[.int .i64 sl, .int .i64 hl] := by
    have := Blk.new (w.alloc (.cells #[.slice A ni ci, .slice B nf cf, .int .i64 (mn : Int)] 25)) 38 #[.int .i64 sl, .int .i64 hl]
    rwa [show (w.alloc (.cells #[.slice A ni ci, .slice B nf cf, .int .i64 (mn : Int)] 25)).heap.size = w.heap.size + 1 by simp] at this
  have CC := Lib.hid (check_c _ G (fun b hb => Nat.lt_of_lt_of_le (hG b hb) OA.size) A ni ci X B nf cf Fs (mn : Int) (hi.tr OA fun b _ hb => ⟨fun h => h, hb⟩) hci (hf.tr OA fun b _ hb => ⟨fun h => h, hb⟩) hm hnf)
  have BA := Lib.hid B3
  have BB := Lib.hid B5
  have OO := Lib.hid OA
  have hlen1 : xs.length < 2199023255552 := by omega
  have hlen2 : ni < 2199023255552 := by omega
  have hlen3 : nf < 2199023255552 := by omega
  have II := Lib.hid hi
  have FF := Lib.hid hf
  have NN := Lib.hid hx
  have HOK := Lib.hid hok
  have HXS := Lib.hid hxs
  clear OA B3 B5 hi hf hG hx hok hxs
  have hd : decide (1048576 < (xs.length : Int)) = false := decide_eq_false hin
  have d0 : decide (sl < 0) = false := decide_eq_false h0
  have d1 : decide (1099511627776 < sl) = false := decide_eq_false h1
  have d2 : decide (hl < 0) = false := decide_eq_false h2
  have d3 : decide (1099511627776 < hl) = false := decide_eq_false h3
  unfold codeV at *
  go_enter Try.func19, Try.ntmps19
  go_wp2_with fail
  generalize World.alloc _ _ = w2 at *
  generalize hs0 : w.heap.size = s0 at *
  refine CC.out.mono ?_
  rintro e w3 ⟨r, rfl, hr, hb⟩
  have hr2 : r = 0 := by
    rcases hr with ⟨h1, h2⟩ | ⟨h1, h2⟩
    · exact h1
    · exact absurd HOK.out h2
  subst hr2
  have B3 := BA.out.below hb BA.out.lt
  have B5 := BB.out.below hb BB.out.lt
  have O3 := OO.out.trans (Only.ofBelow (F := fun _ => False) hb) fun _ _ h => h
  have y0 := B5.cell 0
  have y1 := B5.cell 1
  have x0 := B3.cell 0
  have x1 := B3.cell 1
  have x2 := B3.cell 2
  have xz := B3.frozen
  simp only [List.getElem?_toArray, List.getElem?_cons_zero, List.getElem?_cons_succ] at y0 y1 x0 x1 x2
  have I3 := Lib.hid (II.out.tr O3 fun b _ hb => ⟨fun h => h, hb⟩)
  have B3 := Lib.hid B3
  have B5 := Lib.hid B5
  have O3 := Lib.hid O3
  clear hr hb CC
  have hle := O3.out.size
  go_wp2_with fail
  refine (clone_ins w3 A ni ci (fun h => ⟨I3.out.news.1 h, hA h⟩) (manyC insL X ni) (manyC_length insL_len X ni) I3.out.news.2 (manyC_one insL_one X ni) hlen2).mono ?_
  rintro e w4 ⟨vi, rfl, R4, hb4⟩
  obtain ⟨Ai, capI, rfl, hcI, I4⟩ := R4.il (fun i hi => (II.out.2 i hi).1) II.out.1
  have hle4 := hb4.size
  have B34 := B3.out.below hb4 B3.out.lt
  have B54 := B5.out.below hb4 B5.out.lt
  have O5 := Lib.hid ((O3.out.trans (Only.ofBelow (F := fun _ => False) hb4) fun _ _ h => h).setCell (p := ⟨s0, 0, none⟩) (.inr (Nat.le_of_eq hs0)) (.slice Ai ni capI))
  have B35 := Lib.hid (B34.set_ 0 (.slice Ai ni capI))
  have B55 := Lib.hid (B54.far (p := ⟨s0, 0, none⟩) (by simp) (.slice Ai ni capI))
  have I5 := Lib.hid (I4.tr (F := fun b => b = s0) (G' := fun b => w3.heap.size ≤ b) ((Only.refl (fun b => b = s0) w4).cells (p := ⟨s0, 0, none⟩) rfl (.slice Ai ni capI)) fun b _ hb => ⟨fun h => by have h1 : w3.heap.size ≤ b := hb; have h2 : b = s0 := h; have h3 := B3.out.lt; omega, hb⟩)
  have s03 : s0 < w3.heap.size := B3.out.lt
  have s13 : s0 + 1 < w3.heap.size := B5.out.lt
  have x0 := B34.cell 0
  have xz := B34.frozen
  simp only [List.getElem?_toArray, List.getElem?_cons_zero, List.getElem?_cons_succ] at x0
  have x1 := (B34.cell 1)
  simp only [List.getElem?_toArray, List.getElem?_cons_zero, List.getElem?_cons_succ] at x1
  have hle45 := Lib.hid (show w4.heap.size ≤ (w4.setCell ⟨s0, 0, none⟩ (.slice Ai ni capI)).heap.size by simp [World.setCell])
  clear R4 hb4 I4 B34 B54
  go_wp2_with fail
  generalize World.setCell _ _ _ = w5 at *
  have F5 := Lib.hid (FF.out.tr O5.out fun b _ hb => ⟨fun h => h, hb⟩)
  refine (clone_fns w5 B nf cf (fun h => ⟨F5.out.news.1 h, hB h⟩) (manyC fnL Fs nf) (manyC_length fnL_len Fs nf) F5.out.news.2 (manyC_one fnL_one Fs nf) hlen3).mono ?_
  rintro e w6 ⟨vf, rfl, R6, hb6⟩
  obtain ⟨Af, capF, rfl, hcF, F6⟩ := R6.fl (fun i hi => ⟨(FF.out.2 i hi).1, (FF.out.2 i hi).2.1⟩) FF.out.1
  clear x0 x1 xz y0 y1 x2
  have hle5 : w3.heap.size ≤ w5.heap.size := Nat.le_trans hle4 hle45.out
  have hle6 := hb6.size
  have s05 : s0 < w5.heap.size := B35.out.lt
  have s15 : s0 + 1 < w5.heap.size := B55.out.lt
  have B36 := B35.out.below hb6 s05
  have B56 := B55.out.below hb6 s15
  have O7 := Lib.hid ((O5.out.trans (Only.ofBelow (F := fun _ => False) hb6) fun _ _ h => h).setCell (p := ⟨s0, 1, none⟩) (.inr (Nat.le_of_eq hs0)) (.slice Af nf capF))
  have B37 := Lib.hid (B36.set_ 1 (.slice Af nf capF))
  have B57 := Lib.hid (B56.far (p := ⟨s0, 1, none⟩) (by simp) (.slice Af nf capF))
  have OS := (Only.refl (fun b => b = s0) w6).cells (p := ⟨s0, 1, none⟩) rfl (.slice Af nf capF)
  have F7 := Lib.hid (F6.tr (F := fun b => b = s0) (G' := fun b => w3.heap.size ≤ b) OS fun b _ hb => ⟨fun h => by have h1 : w5.heap.size ≤ b := hb; have h2 : b = s0 := h; omega, by have h1 : w5.heap.size ≤ b := hb; show w3.heap.size ≤ b; omega⟩)
  have I7 := Lib.hid ((I5.out.tr (Only.ofBelow (F := fun _ => False) hb6) fun b _ hb => ⟨fun h => h, hb⟩).tr (F := fun b => b = s0) (G' := fun b => w3.heap.size ≤ b) OS fun b _ hb => ⟨fun h => by have h1 : w3.heap.size ≤ b := hb; have h2 : b = s0 := h; omega, hb⟩)
  have x1 := B36.cell 1
  have xz := B36.frozen
  simp only [List.setIfInBounds_toArray, List.set_cons_zero, List.set_cons_succ, List.getElem?_toArray, List.getElem?_cons_zero, List.getElem?_cons_succ] at x1
  have h37 := Lib.hid (show w3.heap.size ≤ (w6.setCell ⟨s0, 1, none⟩ (.slice Af nf capF)).heap.size by simp [World.setCell]; omega)
  clear R6 hb6 F6 B36 B56 OS
  go_wp2_with fail
  generalize World.setCell _ _ _ = w7 at *
  clear x1 xz
  have x0 := B37.out.cell 0
  have x1 := B37.out.cell 1
  have x2 := B37.out.cell 2
  have y0 := B57.out.cell 0
  have y1 := B57.out.cell 1
  simp only [List.setIfInBounds_toArray, List.set_cons_zero, List.set_cons_succ, List.getElem?_toArray, List.getElem?_cons_zero, List.getElem?_cons_succ] at x0 x1 x2 y0 y1
  have s07 : s0 < w7.heap.size := B37.out.lt
  have s17 : s0 + 1 < w7.heap.size := B57.out.lt
  have N7 := Lib.hid (NN.out.tr O7.out.drew fun b _ hb => ⟨fun h => h, hb⟩)
  have CN := Lib.hid (clone_nums w7.drew NA xs.length nc (fun h => ⟨N7.out.news.1 h, hN h⟩) (nums xs) (by rw [nums_length]; omega) N7.out.news.2 (nums_one1 xs) hlen1)
  refine wp_region_held_drew (S := (fun w' => w'.cell? ⟨s0, 0, none⟩ = some (.slice Ai ni capI) ∧ w'.cell? ⟨s0, 1, none⟩ = some (.slice Af nf capF) ∧ w'.cell? ⟨s0, 2, none⟩ = some (.int .i64 (mn : Int)) ∧ w'.cell? ⟨s0 + 1, 0, none⟩ = some (.int .i64 sl) ∧ w'.cell? ⟨s0 + 1, 1, none⟩ = some (.int .i64 hl))) (by kernel_rfl) (⟨x0, x1, x2, y0, y1⟩) (fun hHeld => ?_)
  refine wpAnyH_take (i := 0) (v := ?_) (by simp only [List.getElem?_toArray, List.getElem?_cons_succ, List.getElem?_cons_zero]; rfl) (by kernel_rfl) (by kernel_rfl) (by kernel_rfl) (by exact fun _ _ _ h => h) (Or.inl ⟨by rfl, ?_⟩) (by assumption) ?_
  rotate_left
  · (intro w hSw; (try dsimp only at hSw); go_simp; skip; with_reducible rfl)
  try simp only [Act.put, List.setIfInBounds_toArray, List.set_cons_zero, List.set_cons_succ]
  refine wpAnyH_take (i := 1) (v := ?_) (by simp only [List.getElem?_toArray, List.getElem?_cons_succ, List.getElem?_cons_zero]; rfl) (by kernel_rfl) (by kernel_rfl) (by kernel_rfl) (by exact fun _ _ _ h => h) (Or.inl ⟨by rfl, ?_⟩) (by assumption) ?_
  rotate_left
  · (intro w hSw; (try dsimp only at hSw); go_simp; skip; with_reducible rfl)
  try simp only [Act.put, List.setIfInBounds_toArray, List.set_cons_zero, List.set_cons_succ]
  refine wpAnyH_take (i := 3) (v := ?_) (by simp only [List.getElem?_toArray, List.getElem?_cons_succ, List.getElem?_cons_zero]; rfl) (by kernel_rfl) (by kernel_rfl) (by kernel_rfl) (by exact fun _ _ _ h => h) (Or.inl ⟨by rfl, ?_⟩) (by assumption) ?_
  rotate_left
  · (intro w hSw; (try dsimp only at hSw); go_simp; skip; with_reducible rfl)
  try simp only [Act.put, List.setIfInBounds_toArray, List.set_cons_zero, List.set_cons_succ]
  refine wpAnyH_ready (rs := [2]) (by kernel_rfl) (by simp) ?_
  refine AllReadyH.cons (by simp only [List.getElem?_toArray, List.getElem?_cons_succ, List.getElem?_cons_zero]; rfl) (fun K hK => ?_) ?_
  · go_simp
    go_at_call 33
    refine CN.out.mono ?_
    rintro e w8 ⟨vn, rfl, R8, hb8⟩
    obtain ⟨An, capN, rfl, hcN, N8⟩ := R8.nl (by omega)
    have N8 := Lib.hid N8
    clear R8
    have t7 := And.intro x0 (And.intro x1 (And.intro x2 (And.intro y0 y1)))
    have s07d : s0 < w7.drew.heap.size := s07
    have s17d : s0 + 1 < w7.drew.heap.size := s17
    have q8 := fun (b o : Nat) (hh : b = s0 ∨ b = s0 + 1) => (Only.ofBelow (F := fun _ => False) hb8).cell (b := b) (o := o) (by rcases hh with hh | hh <;> rw [hh] <;> assumption) (fun h => h)
    have t8 : w8.cell? ⟨s0, 0, none⟩ = some (.slice Ai ni capI) ∧ w8.cell? ⟨s0, 1, none⟩ = some (.slice Af nf capF) ∧ w8.cell? ⟨s0, 2, none⟩ = some (.int .i64 (mn : Int)) ∧ w8.cell? ⟨s0 + 1, 0, none⟩ = some (.int .i64 sl) ∧ w8.cell? ⟨s0 + 1, 1, none⟩ = some (.int .i64 hl) := ⟨(q8 s0 0 (.inl rfl)).trans t7.1, (q8 s0 1 (.inl rfl)).trans t7.2.1, (q8 s0 2 (.inl rfl)).trans t7.2.2.1, (q8 (s0 + 1) 0 (.inr rfl)).trans t7.2.2.2.1, (q8 (s0 + 1) 1 (.inr rfl)).trans t7.2.2.2.2⟩
    have T8 := Lib.hid t8
    have s08 : s0 < w8.heap.size := World.block_lt_of_cell? _ _ t8.1
    have s18 : s0 + 1 < w8.heap.size := World.block_lt_of_cell? _ _ t8.2.2.2.1
    have HB8 := Lib.hid hb8
    clear q8 t8 hb8
    go_wp2_with fail
    refine hK.out _ _ (T8.out) (fun hHeld => ?_)
    clear hK K
    try simp only [Act.put, List.setIfInBounds_toArray, List.set_cons_zero, List.set_cons_succ]
    refine wpAnyH_ready (rs := [4]) (by kernel_rfl) (by simp) ?_
    refine AllReadyH.cons (by simp only [List.getElem?_toArray, List.getElem?_cons_succ, List.getElem?_cons_zero]; rfl) (fun K hK => ?_) ?_
    · go_simp
      go_at_call 34
      refine (operations_c w8).mono ?_
      rintro e w9 ⟨rfl, hb9⟩
      have q9 := fun (b o : Nat) (hh : b = s0 ∨ b = s0 + 1) => (Only.ofBelow (F := fun _ => False) hb9).cell (b := b) (o := o) (by rcases hh with hh | hh <;> rw [hh] <;> assumption) (fun h => h)
      have t9 : w9.cell? ⟨s0, 0, none⟩ = some (.slice Ai ni capI) ∧ w9.cell? ⟨s0, 1, none⟩ = some (.slice Af nf capF) ∧ w9.cell? ⟨s0, 2, none⟩ = some (.int .i64 (mn : Int)) ∧ w9.cell? ⟨s0 + 1, 0, none⟩ = some (.int .i64 sl) ∧ w9.cell? ⟨s0 + 1, 1, none⟩ = some (.int .i64 hl) := ⟨(q9 s0 0 (.inl rfl)).trans T8.out.1, (q9 s0 1 (.inl rfl)).trans T8.out.2.1, (q9 s0 2 (.inl rfl)).trans T8.out.2.2.1, (q9 (s0 + 1) 0 (.inr rfl)).trans T8.out.2.2.2.1, (q9 (s0 + 1) 1 (.inr rfl)).trans T8.out.2.2.2.2⟩
      have T9 := Lib.hid t9
      have s09 : s0 < w9.heap.size := World.block_lt_of_cell? _ _ t9.1
      have s19 : s0 + 1 < w9.heap.size := World.block_lt_of_cell? _ _ t9.2.2.2.1
      have HB9 := Lib.hid hb9
      clear q9 t9 hb9
      unfold doesV
      go_wp2_with fail
      refine hK.out _ _ (T9.out) (fun hHeld => ?_)
      clear hK K
      try simp only [Act.put, List.setIfInBounds_toArray, List.set_cons_zero, List.set_cons_succ]
      refine wpAnyH_ready (rs := [5]) (by kernel_rfl) (by simp) ?_
      refine AllReadyH.cons (by simp only [List.getElem?_toArray, List.getElem?_cons_succ, List.getElem?_cons_zero]; rfl) (fun K hK => ?_) ?_
      · go_simp
        go_at_call 35
        refine (hnew_c w9).mono ?_
        rintro e w10 ⟨rfl, H10, hb10⟩
        have H10 := Lib.hid H10
        have q10 := fun (b o : Nat) (hh : b = s0 ∨ b = s0 + 1) => (Only.ofBelow (F := fun _ => False) hb10).cell (b := b) (o := o) (by rcases hh with hh | hh <;> rw [hh] <;> assumption) (fun h => h)
        have t10 : w10.cell? ⟨s0, 0, none⟩ = some (.slice Ai ni capI) ∧ w10.cell? ⟨s0, 1, none⟩ = some (.slice Af nf capF) ∧ w10.cell? ⟨s0, 2, none⟩ = some (.int .i64 (mn : Int)) ∧ w10.cell? ⟨s0 + 1, 0, none⟩ = some (.int .i64 sl) ∧ w10.cell? ⟨s0 + 1, 1, none⟩ = some (.int .i64 hl) := ⟨(q10 s0 0 (.inl rfl)).trans T9.out.1, (q10 s0 1 (.inl rfl)).trans T9.out.2.1, (q10 s0 2 (.inl rfl)).trans T9.out.2.2.1, (q10 (s0 + 1) 0 (.inr rfl)).trans T9.out.2.2.2.1, (q10 (s0 + 1) 1 (.inr rfl)).trans T9.out.2.2.2.2⟩
        have T10 := Lib.hid t10
        have s010 : s0 < w10.heap.size := World.block_lt_of_cell? _ _ t10.1
        have s110 : s0 + 1 < w10.heap.size := World.block_lt_of_cell? _ _ t10.2.2.2.1
        have HB10 := Lib.hid hb10
        clear q10 t10 hb10
        go_wp2_with fail
        refine hK.out _ _ (T10.out) (fun hHeld => ?_)
        clear hK K
        try simp only [Act.put, List.setIfInBounds_toArray, List.set_cons_zero, List.set_cons_succ]
        refine wpAnyH_take (i := 6) (v := ?_) (by simp only [List.getElem?_toArray, List.getElem?_cons_succ, List.getElem?_cons_zero]; rfl) (by kernel_rfl) (by kernel_rfl) (by kernel_rfl) (by exact fun _ _ _ h => h) (Or.inl ⟨by rfl, ?_⟩) (by assumption) ?_
        rotate_left
        · (intro w hSw; (try dsimp only at hSw); go_simp; with_reducible rfl)
        try simp only [Act.put, List.setIfInBounds_toArray, List.set_cons_zero, List.set_cons_succ]
        refine wpAnyH_ready (rs := [7]) (by kernel_rfl) (by simp) ?_
        refine AllReadyH.cons (by simp only [List.getElem?_toArray, List.getElem?_cons_succ, List.getElem?_cons_zero]; rfl) (fun K hK => ?_) ?_
        · go_simp
          generalize hARR : Array.setIfInBounds _ 63 _ = arr
          have HA : arr = machA (.slice Ai ni capI) (.slice Af nf capF) (mn : Int) (.slice An xs.length capN) sl hl (w9.heap.size + 2) := by rw [← hARR]; kernel_rfl
          have HA := Lib.hid HA
          clear hARR
          refine hK.out _ _ (⟨(World.cell?_alloc_past _ _ _ s010).trans T10.out.1, (World.cell?_alloc_past _ _ _ s010).trans T10.out.2.1, (World.cell?_alloc_past _ _ _ s010).trans T10.out.2.2.1, (World.cell?_alloc_past _ _ _ s110).trans T10.out.2.2.2.1, (World.cell?_alloc_past _ _ _ s110).trans T10.out.2.2.2.2⟩) (fun hHeld => ?_)
          clear hK K
          try simp only [Act.put, List.setIfInBounds_toArray, List.set_cons_zero, List.set_cons_succ]
          refine wpAnyH_take (i := 8) (v := ?_) (by simp only [List.getElem?_toArray, List.getElem?_cons_succ, List.getElem?_cons_zero]; rfl) (by kernel_rfl) (by kernel_rfl) (by kernel_rfl) (by exact fun _ _ _ h => h) (Or.inl ⟨by rfl, ?_⟩) (by assumption) ?_
          rotate_left
          · (intro w hSw; (try dsimp only at hSw); go_simp; with_reducible rfl)
          try simp only [Act.put, List.setIfInBounds_toArray, List.set_cons_zero, List.set_cons_succ]
          refine wpAnyH_done (by kernel_rfl) ?_ _
          have hA := HA.out
          subst hA
          clear HA CN N7
          have hmm := @run_makeMap Try.prog
          have BM := Blk.new w10 87 (machA (.slice Ai ni capI) (.slice Af nf capF) (mn : Int) (.slice An xs.length capN) sl hl (w9.heap.size + 2))
          have k62 : (w10.alloc (.cells (machA (.slice Ai ni capI) (.slice Af nf capF) (mn : Int) (.slice An xs.length capN) sl hl (w9.heap.size + 2)) 87)).cell? ⟨w10.heap.size, 62, none⟩ = some (.map none) := (BM.cell 62).trans (by kernel_rfl)
          have zM := BM.frozen
          have hgs : (w10.alloc (.cells (machA (.slice Ai ni capI) (.slice Af nf capF) (mn : Int) (.slice An xs.length capN) sl hl (w9.heap.size + 2)) 87)).heap.size = w10.heap.size + 1 := by simp
          have B12 := (BM.alloc (.map #[] 0)).set_ 62 (.map (some (w10.heap.size + 1)))
          rw [machB_of] at B12
          have I12 := (IMap.made Try.prog 3 (w10.alloc (.cells (machA (.slice Ai ni capI) (.slice Af nf capF) (mn : Int) (.slice An xs.length capN) sl hl (w9.heap.size + 2)) 87))).far (a := ⟨w10.heap.size, 62, none⟩) (by show ¬ _ = w10.heap.size; omega) (.map (some (w10.heap.size + 1)))
          rw [hgs] at I12
          have OX := (((Only.refl (fun b => b = w10.heap.size) w10).alloc (.cells (machA (.slice Ai ni capI) (.slice Af nf capF) (mn : Int) (.slice An xs.length capN) sl hl (w9.heap.size + 2)) 87)).alloc (.map #[] 0)).cells (p := ⟨w10.heap.size, 62, none⟩) rfl (.map (some (w10.heap.size + 1)))
          have OW : Only (fun _ => False) w7 w10 := (((((Only.refl (fun _ => False) w7).drew).trans (Only.ofBelow (F := fun _ => False) HB8.out) fun _ _ h => h).trans (Only.ofBelow (F := fun _ => False) HB9.out) fun _ _ h => h).trans (Only.ofBelow (F := fun _ => False) HB10.out) fun _ _ h => h)
          have OW8 : Only (fun _ => False) w8 w10 := ((Only.ofBelow (F := fun _ => False) HB9.out).trans (Only.ofBelow (F := fun _ => False) HB10.out) fun _ _ h => h)
          have h37 : w3.heap.size ≤ w7.heap.size := h37.out
          have h78 : w7.heap.size ≤ w8.heap.size := HB8.out.size
          have h89 := HB9.out.size
          have h90 := HB10.out.size
          have OG : ∀ {a : World}, Only (fun _ => False) a w10 → a.heap.size ≤ w10.heap.size → Only (fun b => b = w10.heap.size) a _ := fun ha hs => (ha.mono fun _ _ h => h.elim).trans OX fun _ _ h => h
          have II12 := I7.out.tr (G' := fun b => w3.heap.size ≤ b ∧ b < w9.heap.size) (OG OW OW.size) fun b hb h => ⟨fun e => by have e1 : b = w10.heap.size := e; omega, h, by omega⟩
          have FF12 := F7.out.tr (G' := fun b => w3.heap.size ≤ b ∧ b < w9.heap.size) (OG OW OW.size) fun b hb h => ⟨fun e => by have e1 : b = w10.heap.size := e; omega, h, by omega⟩
          have NN12 := N8.out.tr (G' := fun b => w3.heap.size ≤ b ∧ b < w9.heap.size) (OG OW8 OW8.size) fun b hb h => ⟨fun e => by have e1 : b = w10.heap.size := e; omega, by have e1 : w7.heap.size ≤ b := h; omega, by omega⟩
          have HH12 := H10.out.tr (G' := fun b => w9.heap.size ≤ b ∧ b < w10.heap.size) OX fun b hb h => ⟨fun e => by have e1 : b = w10.heap.size := e; omega, h, hb⟩
          have M12 := MZ_new (s0 := s0) B12 II12 FF12 NN12 HH12 I12 (by omega) (by omega) h90 (by omega) hcI hcF hcN
          have O12 := ((((O7.out.trans OW fun _ _ h => h).alloc (.cells (machA (.slice Ai ni capI) (.slice Af nf capF) (mn : Int) (.slice An xs.length capN) sl hl (w9.heap.size + 2)) 87)).alloc (.map #[] 0)).setCell (p := ⟨w10.heap.size, 62, none⟩) (.inr (by show w.heap.size ≤ w10.heap.size; omega)) (.map (some (w10.heap.size + 1))))
          have t12 := (fun (b o : Nat) (hb : b = s0 ∨ b = s0 + 1) => OX.cell (b := b) (o := o) (by rcases hb with hb | hb <;> rw [hb] <;> assumption) (fun e => by have e1 : b = w10.heap.size := e; omega))
          have x0 := (t12 s0 0 (.inl rfl)).trans T10.out.1
          have x1 := (t12 s0 1 (.inl rfl)).trans T10.out.2.1
          have x2 := (t12 s0 2 (.inl rfl)).trans T10.out.2.2.1
          have y0 := (t12 (s0 + 1) 0 (.inr rfl)).trans T10.out.2.2.2.1
          have hsz12 : w10.heap.size ≤ w10.heap.size := Nat.le_refl _
          have hs10 : s0 ≤ w10.heap.size := by omega
          clear B12 I12 II12 FF12 NN12 HH12 t12 OG OW OW8 OX T8 T9 T10 H10 N8 HB8 HB9 HB10 I7 F7 B37 B57 O7
          have hW : ((w10.alloc (.cells (machA (.slice Ai ni capI) (.slice Af nf capF) (mn : Int) (.slice An xs.length capN) sl hl (w9.heap.size + 2)) 87)).alloc (.map #[] 0)).setCell ⟨w10.heap.size, 62, none⟩ (.map (some (w10.heap.size + 1))) = (w10.alloc (.cells ((machA (.slice Ai ni capI) (.slice Af nf capF) (mn : Int) (.slice An xs.length capN) sl hl (w9.heap.size + 2)).setIfInBounds 62 (.map (some (w10.heap.size + 1)))) 87)).alloc (.map #[] 0) := by go_simp
          go_wp2_with fail
          rw [← hW]
          clear hW
          generalize World.setCell _ _ _ = w12 at *
          generalize w10.heap.size = g at *
          clear k62 zM BM hmm hgs
          obtain ⟨fi, hsz, fb, off, hfA, hb7, hfb, c0, c1, c2, c3, c4⟩ := M12.fl.2 mn (by show mn < nf; have := HOK.out.2.2.2.1; omega)
          have hfA2 : Af = some ⟨fb, off, none⟩ := hfA
          subst hfA2
          have hmi : (0 : Int) ≤ (mn : Int) := Int.natCast_nonneg _
          have hmn : (mn : Int) < (nf : Int) := HOK.out.2.2.2.1
          have MN := Lib.hid (fun k => M12.drewN k)
          have ON := Lib.hid (fun k => O12.drewN k)
          have k69 : w12.cell? ⟨g, 69, none⟩ = some (.int .i64 0) := M12.k69
          have k70 : w12.cell? ⟨g, 70, none⟩ = some (.int .i64 0) := M12.k70
          have zg := M12.frozen
          have hgl := M12.lt
          have SD : Sound { ni := ni, X := X, nf := nf, Fs := Fs, mn := (mn : Int), sl := sl, hl := hl } := ⟨HOK.out, by show (ni : Int) ≤ _; omega, fun k hk => (II.out.2 k hk).1.n, by show 0 ≤ sl; omega, by show sl ≤ _; omega, by show 0 ≤ hl; omega, by show hl ≤ _; omega⟩
          have GQ := Lib.hid (newQ_good SD xs HXS.out)
          have BG := Lib.hid (fun k (hC : ∀ b, (w12.drewN k).heap.size ≤ b → s0 ≤ b) => mbegin_c (w12.drewN k) (fun b => s0 ≤ b) g _ _ 0 ⟨_, _, M12.drewN k⟩ hC (by decide) mn (by show mn < nf; have := HOK.out.2.2.2.1; omega) 0 (-1) (-1) (by decide) (by decide) ⟨by decide, by decide⟩ ⟨by decide, by decide⟩ (by show (0 : Nat) < _; decide))
          clear M12 O12 SD hfA hb7 fi
          go_wp2_with fail
          have NQ : Hid (newQ { ni := ni, X := X, nf := nf, Fs := Fs, mn := (mn : Int), sl := sl, hl := hl } xs = if sl < (Fs mn).frame then (q00 xs).fins 2 7 0 else (q00 xs).begin { ni := ni, X := X, nf := nf, Fs := Fs, mn := (mn : Int), sl := sl, hl := hl } mn 0 (-1) (-1)) := rfl
          by_cases hfr : sl < (Fs mn).frame
          · go_quiet (fail)
            go_wp2_with fail
            go_ret2
            have e0 : 2 * (newQ ({ ni := ni, X := X, nf := nf, Fs := Fs, mn := (mn : Int), sl := sl, hl := hl } : MK) xs).steps.toNat + 2 = 2 := by rw [newQ_steps]; rfl
            have e1 : newQ ({ ni := ni, X := X, nf := nf, Fs := Fs, mn := (mn : Int), sl := sl, hl := hl } : MK) xs = (q00 xs).fins 2 7 0 := if_pos hfr
            refine ⟨g, rfl, ⟨GQ.out, by rw [newQ_steps]; decide, ?_⟩, ?_⟩
            · rw [e0, e1, hs0]
              exact ⟨_, _, (((MN.out nq).put 69 (.int .i64 2) _ (fun f hf => hf.sFin 2) rfl rfl rfl rfl rfl).put 70 (.int .i64 7) _ (fun f hf => hf.sKind 7) rfl rfl rfl rfl rfl).mono (by decide)⟩
            · exact (((ON.out nq).setCell (p := ⟨g, 69, none⟩) (.inr (by show w.heap.size ≤ g; omega)) _).setCell (p := ⟨g, 70, none⟩) (.inr (by show w.heap.size ≤ g; omega)) _).toBelow (Nat.le_refl _) fun _ _ h => h
          · go_quiet (fail)
            go_wp2_with fail
            refine (BG.out nq (fun b hb => by have := (ON.out nq).size; omega)).mono ?_
            rintro e w14 ⟨rfl, M14, O14⟩
            go_wp2_with fail
            go_ret2
            have e0 : 2 * (newQ ({ ni := ni, X := X, nf := nf, Fs := Fs, mn := (mn : Int), sl := sl, hl := hl } : MK) xs).steps.toNat + 2 = 2 := by rw [newQ_steps]; rfl
            have e1 : newQ ({ ni := ni, X := X, nf := nf, Fs := Fs, mn := (mn : Int), sl := sl, hl := hl } : MK) xs = (q00 xs).begin ({ ni := ni, X := X, nf := nf, Fs := Fs, mn := (mn : Int), sl := sl, hl := hl } : MK) mn 0 (-1) (-1) := if_neg (Int.not_lt.2 hfr)
            refine ⟨g, rfl, ⟨GQ.out, by rw [newQ_steps]; decide, ?_⟩, ?_⟩
            · rw [e0, e1, hs0]
              exact M14
            · exact ((ON.out nq).trans (G := fun b => s0 ≤ b) O14 (fun b h4 h5 => by have h6 : s0 ≤ b := h5; omega)).toBelow (Nat.le_refl _) fun _ _ h => h
        exact AllReadyH.nil
      exact AllReadyH.nil
    exact AllReadyH.nil
  exact AllReadyH.nil
end Go.Proofs.Ytkjfbojmkkdgoaa
