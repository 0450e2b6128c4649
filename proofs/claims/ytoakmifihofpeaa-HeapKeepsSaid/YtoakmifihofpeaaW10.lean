/- The pair: Set, Len, Get, Words played. -/
import Derived.Test.YtoakmifihofpeaaW9
set_option linter.unusedVariables false
set_option linter.unusedSimpArgs false
namespace Go.Proofs.Ytoakmifihofpeaa
open Go.RowKit
attribute [local go_sem ↓] Go.wp_at_zero Go.wp_at_succ
theorem PairP.still {w w1 : World} {F : Nat → Prop} {p c : Nat} {q : QH} {r : RH} {l : List Int} {F1 F2 F3 : Nat → Prop} {g gr : Nat} {v : Value} {k who near a i x : Int} (B : Begun w w1 F p c q r l F1 F2 F3 g gr v k who near a i x) (hcc : c + 1 < 900000) (n : Nat) :
    PlayPost w F p c (.returned (.bool true)) (w1.drewN n) := by
  refine ⟨rfl, PairAt.more ⟨q, r, l, F1, F2, F3, g, gr, v, (B.pr.only ((Only.refl (fun _ => False) w1).drewN n) (fun _ _ _ h => h)).up hcc⟩ fun b _ h => .inl h, ?_⟩
  exact ((Only.ofBelow (F := F) B.below).drewN n)
set_option maxRecDepth 100000 in
set_option maxHeartbeats 8000000 in
theorem plays_len (w : World) (F : Nat → Prop) (p c : Nat) (q : QH) (r : RH) (l : List Int) (F1 F2 F3 : Nat → Prop) (g gr : Nat) (v : Value) (H : PairP w F p c q r l F1 F2 F3 g gr v) (hF : ∀ b, F b → b < w.heap.size) (hcc : c + 1 < 900000) (who near a i x : Int) (ha : i64in a) (hn : i64in near) :
    Calls Try.prog 12 #[.pointer (some ⟨p, 0, none⟩), .agg #[.int .i64 3, .int .i64 who, .int .i64 near, .int .i64 a, .int .i64 i, .int .i64 x]] w (PlayPost w F p c) := by
  have AC := Lib.hid (address_c _ F p c q r l F1 F2 F3 g gr v (H.only ((Only.refl (fun _ => False) w).alloc (.cells #[.int .i64 3, .int .i64 who, .int .i64 near, .int .i64 a, .int .i64 i, .int .i64 x] 30)) (fun _ _ _ h => h)) 3 who near a i x ha hn)
  have BG := Lib.hid (fun w1 => begun (w1 := w1) H hF 3 who near a i x)
  clear H hF
  go_enter Try.func12, Try.ntmps12
  go_wp2_with fail
  refine AC.out.mono ?_
  rintro e w1 ⟨ad, rfl, hadr, hb⟩
  have B := Lib.hid (BG.out w1 hb)
  clear BG hb AC
  have c0 : w1.cell? ⟨p, 0, none⟩ = some (.pointer (some ⟨g, 0, none⟩)) := B.out.pr.box.cell 0
  have c1 : w1.cell? ⟨p, 1, none⟩ = some (.pointer (some ⟨gr, 0, none⟩)) := B.out.pr.box.cell 1
  have b0 := B.out.b0
  have LC := Lib.hid (len_c w1 F1 g c q ad B.out.pr.hp hadr)
  have RC := Lib.hid ((rlen_c w1 F2 gr r ad B.out.pr.rp B.out.pr.both.sorted (by have := B.out.pr.cN; have := B.out.pr.cc; omega)).mono fun e w' h => B.out.pr.both.len_post h)
  have E (n : Nat) := Lib.hid (PairP.still B.out hcc n)
  generalize q.lenA ad = y at *
  generalize q.lenB ad = z at *
  have hy : (y == y) = true := beq_self_eq_true y
  have hz : (z == z) = true := beq_self_eq_true z
  clear B
  go_wp2_with (first
    | (go_at_call 17; refine LC.out.mono ?_; rintro e w' ⟨rfl, rfl⟩)
    | (go_at_call 24; refine RC.out.mono ?_; rintro e w' ⟨rfl, rfl⟩))
  go_ret
  exact (E 0).out
set_option maxRecDepth 100000 in
set_option maxHeartbeats 8000000 in
theorem plays_get (w : World) (F : Nat → Prop) (p c : Nat) (q : QH) (r : RH) (l : List Int) (F1 F2 F3 : Nat → Prop) (g gr : Nat) (v : Value) (H : PairP w F p c q r l F1 F2 F3 g gr v) (hF : ∀ b, F b → b < w.heap.size) (hcc : c + 1 < 900000) (who near a i x : Int) (ha : i64in a) (hn : i64in near) :
    Calls Try.prog 12 #[.pointer (some ⟨p, 0, none⟩), .agg #[.int .i64 4, .int .i64 who, .int .i64 near, .int .i64 a, .int .i64 i, .int .i64 x]] w (PlayPost w F p c) := by
  have AC := Lib.hid (address_c _ F p c q r l F1 F2 F3 g gr v (H.only ((Only.refl (fun _ => False) w).alloc (.cells #[.int .i64 4, .int .i64 who, .int .i64 near, .int .i64 a, .int .i64 i, .int .i64 x] 30)) (fun _ _ _ h => h)) 4 who near a i x ha hn)
  have BG := Lib.hid (fun w1 => begun (w1 := w1) H hF 4 who near a i x)
  clear H hF
  go_enter Try.func12, Try.ntmps12
  go_wp2_with fail
  refine AC.out.mono ?_
  rintro e w1 ⟨ad, rfl, hadr, hb⟩
  have B := Lib.hid (BG.out w1 hb)
  clear BG hb AC
  have c0 : w1.cell? ⟨p, 0, none⟩ = some (.pointer (some ⟨g, 0, none⟩)) := B.out.pr.box.cell 0
  have c1 : w1.cell? ⟨p, 1, none⟩ = some (.pointer (some ⟨gr, 0, none⟩)) := B.out.pr.box.cell 1
  have b0 := B.out.b0
  have b4 := B.out.b4
  have LC := Lib.hid (fun n => (get_c (w1.drewN n) F1 g c q ad i (B.out.pr.only ((Only.refl (fun _ => False) w1).drewN n) (fun _ _ _ h => h)).hp B.out.pr.both.ok hadr))
  have RC := Lib.hid (fun n => (rget_c (w1.drewN n) F2 gr r ad i (B.out.pr.only ((Only.refl (fun _ => False) w1).drewN n) (fun _ _ _ h => h)).rp B.out.pr.both.sorted B.out.pr.both.valid (by have := B.out.pr.cN; have := B.out.pr.cc; omega) (fun k hk => by have := B.out.pr.cX k hk; have := B.out.pr.cc; omega)).mono fun e w' h => B.out.pr.both.get_post h)
  have E (n : Nat) := Lib.hid (PairP.still B.out hcc n)
  generalize q.getA ad i = y at *
  generalize q.has ad i = z at *
  have hy : (y == y) = true := beq_self_eq_true y
  have hz : (z == z) = true := beq_self_eq_true z
  have LQ := Lib.hid (fun n => (LC.out n).mono (R' := fun e w'' => e = .returned (.tuple #[.int .i64 y, .bool z]) ∧ ∃ m, w'' = w1.drewN m) fun e w' ⟨a, b⟩ => ⟨a, n, b.symm⟩)
  have RQ := Lib.hid (fun n m' => (RC.out (n + m')).mono (R' := fun e w'' => e = .returned (.tuple #[.int .i64 y, .bool z]) ∧ ∃ m, w'' = w1.drewN (n + m)) fun e w' ⟨a, b⟩ => ⟨b, m', a.symm⟩)
  clear B LC RC
  go_wp2_with fail
  go_quiet (exact LQ.out _)
  go_wp2_with fail
  go_quiet (exact RQ.out _ _)
  go_wp2_with fail
  go_ret
  exact (E _).out
set_option maxRecDepth 100000 in
set_option maxHeartbeats 8000000 in
theorem plays_words (w : World) (F : Nat → Prop) (p c : Nat) (q : QH) (r : RH) (l : List Int) (F1 F2 F3 : Nat → Prop) (g gr : Nat) (v : Value) (H : PairP w F p c q r l F1 F2 F3 g gr v) (hF : ∀ b, F b → b < w.heap.size) (hcc : c + 1 < 900000) (who near a i x : Int) (ha : i64in a) (hn : i64in near) :
    Calls Try.prog 12 #[.pointer (some ⟨p, 0, none⟩), .agg #[.int .i64 5, .int .i64 who, .int .i64 near, .int .i64 a, .int .i64 i, .int .i64 x]] w (PlayPost w F p c) := by
  have AC := Lib.hid (address_c _ F p c q r l F1 F2 F3 g gr v (H.only ((Only.refl (fun _ => False) w).alloc (.cells #[.int .i64 5, .int .i64 who, .int .i64 near, .int .i64 a, .int .i64 i, .int .i64 x] 30)) (fun _ _ _ h => h)) 5 who near a i x ha hn)
  have BG := Lib.hid (fun w1 => begun (w1 := w1) H hF 5 who near a i x)
  clear H hF
  go_enter Try.func12, Try.ntmps12
  go_wp2_with fail
  refine AC.out.mono ?_
  rintro e w1 ⟨ad, rfl, hadr, hb⟩
  have B := Lib.hid (BG.out w1 hb)
  clear BG hb AC
  have b0 := B.out.b0
  have c0 : w1.cell? ⟨p, 0, none⟩ = some (.pointer (some ⟨g, 0, none⟩)) := B.out.pr.box.cell 0
  have c1 : w1.cell? ⟨p, 1, none⟩ = some (.pointer (some ⟨gr, 0, none⟩)) := B.out.pr.box.cell 1
  have LQ := Lib.hid (fun n => (words_c (w1.drewN n) F1 g c q (B.out.pr.only ((Only.refl (fun _ => False) w1).drewN n) (fun _ _ _ h => h)).hp).mono (R' := fun e w'' => e = .returned (.int .i64 q.tk) ∧ ∃ m, w'' = w1.drewN m) fun e w' ⟨a, b⟩ => ⟨a, n, b.symm⟩)
  have RQ := Lib.hid (fun n => (rwords_c (w1.drewN n) F2 gr r (B.out.pr.only ((Only.refl (fun _ => False) w1).drewN n) (fun _ _ _ h => h)).rp).mono (R' := fun e w'' => e = .returned (.int .i64 q.tk) ∧ ∃ m, w'' = w1.drewN m) fun e w' ⟨a, b⟩ => ⟨by rw [B.out.pr.both.tk]; exact a, n, b.symm⟩)
  have E (n : Nat) := Lib.hid (PairP.still B.out hcc n)
  generalize q.tk = y at *
  have hy : (y == y) = true := beq_self_eq_true y
  clear B
  go_wp2_with fail
  go_quiet (first | exact LQ.out _ | exact RQ.out _)
  go_wp2_with fail
  go_ret
  exact (E _).out
set_option maxRecDepth 100000 in
set_option maxHeartbeats 8000000 in
theorem plays_other (w : World) (F : Nat → Prop) (p c : Nat) (q : QH) (r : RH) (l : List Int) (F1 F2 F3 : Nat → Prop) (g gr : Nat) (v : Value) (H : PairP w F p c q r l F1 F2 F3 g gr v) (hF : ∀ b, F b → b < w.heap.size) (hcc : c + 1 < 900000) (k who near a i x : Int) (h1 : k ≠ 1) (h2 : k ≠ 2) (h3 : k ≠ 3) (h4 : k ≠ 4) (h5 : k ≠ 5) (ha : i64in a) (hn : i64in near) :
    Calls Try.prog 12 #[.pointer (some ⟨p, 0, none⟩), .agg #[.int .i64 k, .int .i64 who, .int .i64 near, .int .i64 a, .int .i64 i, .int .i64 x]] w (PlayPost w F p c) := by
  have AC := Lib.hid (address_c _ F p c q r l F1 F2 F3 g gr v (H.only ((Only.refl (fun _ => False) w).alloc (.cells #[.int .i64 k, .int .i64 who, .int .i64 near, .int .i64 a, .int .i64 i, .int .i64 x] 30)) (fun _ _ _ h => h)) k who near a i x ha hn)
  have BG := Lib.hid (fun w1 => begun (w1 := w1) H hF k who near a i x)
  clear H hF
  go_enter Try.func12, Try.ntmps12
  go_wp2_with fail
  refine AC.out.mono ?_
  rintro e w1 ⟨ad, rfl, hadr, hb⟩
  have B := Lib.hid (BG.out w1 hb)
  clear BG hb AC
  have b0 := B.out.b0
  have E (n : Nat) := Lib.hid (PairP.still B.out hcc n)
  have h1' : (k == 1) = false := beq_eq_false_iff_ne.2 h1
  have h2' : (k == 2) = false := beq_eq_false_iff_ne.2 h2
  have h3' : (k == 3) = false := beq_eq_false_iff_ne.2 h3
  have h4' : (k == 4) = false := beq_eq_false_iff_ne.2 h4
  have h5' : (k == 5) = false := beq_eq_false_iff_ne.2 h5
  clear B h1 h2 h3 h4 h5
  go_wp2_with fail
  go_ret
  exact (E 0).out
set_option maxRecDepth 100000 in
set_option maxHeartbeats 8000000 in
theorem plays_set (w : World) (F : Nat → Prop) (p c : Nat) (q : QH) (r : RH) (l : List Int) (F1 F2 F3 : Nat → Prop) (g gr : Nat) (v : Value) (H : PairP w F p c q r l F1 F2 F3 g gr v) (hF : ∀ b, F b → b < w.heap.size) (hcc : c + 1 < 900000) (who near a i x : Int) (ha : i64in a) (hn : i64in near) (hx : i64in x) :
    Calls Try.prog 12 #[.pointer (some ⟨p, 0, none⟩), .agg #[.int .i64 2, .int .i64 who, .int .i64 near, .int .i64 a, .int .i64 i, .int .i64 x]] w (PlayPost w F p c) := by
  have AC := Lib.hid (address_c _ F p c q r l F1 F2 F3 g gr v (H.only ((Only.refl (fun _ => False) w).alloc (.cells #[.int .i64 2, .int .i64 who, .int .i64 near, .int .i64 a, .int .i64 i, .int .i64 x] 30)) (fun _ _ _ h => h)) 2 who near a i x ha hn)
  have BG := Lib.hid (fun w1 => begun (w1 := w1) H hF 2 who near a i x)
  clear H hF
  go_enter Try.func12, Try.ntmps12
  go_wp2_with fail
  refine AC.out.mono ?_
  rintro e w1 ⟨ad, rfl, hadr, hb⟩
  have B := Lib.hid (BG.out w1 hb)
  clear BG hb AC
  have b0 := B.out.b0
  have c0 : w1.cell? ⟨p, 0, none⟩ = some (.pointer (some ⟨g, 0, none⟩)) := B.out.pr.box.cell 0
  have c1 : w1.cell? ⟨p, 1, none⟩ = some (.pointer (some ⟨gr, 0, none⟩)) := B.out.pr.box.cell 1
  have b4 := B.out.b4
  have b5 := B.out.b5
  have hbl := B.out.lt
  have hpl := B.out.pr.box.lt
  go_wp2_with fail
  have MC := Lib.hid (fun W (hW : HeapAt W F1 g c q) => set_c W F1 g c q ad i x hW B.out.pr.both.ok hadr hx (by omega))
  have HP1 : Hid (HeapAt w1.drew F1 g c q) := B.out.pr.hp
  have NP : Hid (¬ F1 p) := B.out.pr.np.1
  have NB : Hid (¬ F1 w.heap.size) := fun h => by have := B.out.fs _ (B.out.pr.f1 _ h).1; omega
  go_region_held3 (fun w' => w'.cell? ⟨p, 0, none⟩ = some (.pointer (some ⟨g, 0, none⟩)) ∧ w'.cell? ⟨w.heap.size, 4, none⟩ = some (.int .i64 i) ∧ w'.cell? ⟨w.heap.size, 5, none⟩ = some (.int .i64 x))
    (first | (go_keep; done) | (go_split_ands; exact ⟨e1, e2, e3⟩))
    ((go_at_call 16; refine (MC.out _ HP1.out).mono ?_; rintro e w2 ⟨rfl, hh, ho⟩; have HH := Lib.hid hh; have HO := Lib.hid (show Only F1 w1 w2 from ⟨ho.os, ho.tape, ho.output, ho.size, ho.block⟩); have e1 : w2.cell? ⟨p, 0, none⟩ = some (.pointer (some ⟨g, 0, none⟩)) := (HO.out.cell hpl NP.out).trans c0; have e2 : w2.cell? ⟨w.heap.size, 4, none⟩ = some (.int .i64 i) := (HO.out.cell hbl NB.out).trans b4; have e3 : w2.cell? ⟨w.heap.size, 5, none⟩ = some (.int .i64 x) := (HO.out.cell hbl NB.out).trans b5; clear hh ho))
  have HP2 : Hid (RHeapAt w2.drew F2 gr r) := (B.out.pr.heap1 HO.out).2.1.drew
  have RC := Lib.hid (fun W (hW : RHeapAt W F2 gr r) => rset_c W F2 gr c q r ad i x hW B.out.pr.both (by omega) B.out.pr.cN B.out.pr.cX)
  have NP2 : Hid (¬ F2 p) := B.out.pr.np.2.1
  have NB2 : Hid (¬ F2 w.heap.size) := fun h => by have := B.out.fs _ (B.out.pr.f2 _ h).1; omega
  have e4 : w2.cell? ⟨p, 1, none⟩ = some (.pointer (some ⟨gr, 0, none⟩)) := (HO.out.cell hpl NP.out).trans c1
  have hs2 := HO.out.size
  clear c0 c1 b0 b4 b5 e1
  have hz : (q.has ad i == q.has ad i) = true := beq_self_eq_true _
  go_wp2_with fail
  go_region_held3 (fun w' => w'.cell? ⟨p, 1, none⟩ = some (.pointer (some ⟨gr, 0, none⟩)) ∧ w'.cell? ⟨w.heap.size, 4, none⟩ = some (.int .i64 i) ∧ w'.cell? ⟨w.heap.size, 5, none⟩ = some (.int .i64 x))
    (first | (go_keep; done) | (go_split_ands; exact ⟨e5, e6, e7⟩))
    ((go_at_call 23; refine (RC.out _ HP2.out).mono ?_; rintro e w3 ⟨rfl, r', hh3, hbo, hNN, hXX, ho3⟩; have HH3 := Lib.hid (show RHeapAt w3 (fun b => F2 b ∨ w2.heap.size ≤ b) gr r' from hh3); have HO3 := Lib.hid (show Only F2 w2 w3 from ⟨ho3.os, ho3.tape, ho3.output, ho3.size, ho3.block⟩); have HB3 := Lib.hid hbo; have HX3 := Lib.hid hXX; have HN3 := Lib.hid hNN; have e5 : w3.cell? ⟨p, 1, none⟩ = some (.pointer (some ⟨gr, 0, none⟩)) := (HO3.out.cell (by omega) NP2.out).trans e4; have e6 : w3.cell? ⟨w.heap.size, 4, none⟩ = some (.int .i64 i) := (HO3.out.cell (by omega) NB2.out).trans e2; have e7 : w3.cell? ⟨w.heap.size, 5, none⟩ = some (.int .i64 x) := (HO3.out.cell (by omega) NB2.out).trans e3; clear hh3 ho3 hbo hXX hNN))
  have DN := Lib.hid (B.out.pr.done HO.out HH.out HO3.out HH3.out HB3.out hcc (by have := B.out.pr.cN; have := HN3.out; omega) HX3.out)
  have ON (W : World) (h : Only F w1 W) : Only F w W := ⟨h.os.trans B.out.below.os, h.tape.trans B.out.below.tape, h.output.trans B.out.below.output, Nat.le_trans B.out.below.size h.size, fun b hb hf => (h.block b (by omega) hf).trans (B.out.below.block b hb)⟩
  clear e2 e3 e4 e5 e6 e7
  go_wp2_with fail
  go_ret
  exact ⟨rfl, DN.out.1.fin (by omega), ON _ DN.out.2⟩
end Go.Proofs.Ytoakmifihofpeaa
