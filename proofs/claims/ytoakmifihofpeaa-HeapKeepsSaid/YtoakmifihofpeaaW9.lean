/- The pair: a call played. -/
import Derived.Test.YtoakmifihofpeaaW8
import Derived.Deep.RegionHeld3
import Derived.Deep.RegionLaw
import Derived.Deep.DrawnRows
set_option linter.unusedVariables false
set_option linter.unusedSimpArgs false
namespace Go.Proofs.Ytoakmifihofpeaa
open Go.RowKit
attribute [local go_sem ↓] Go.wp_at_zero Go.wp_at_succ
theorem RHeapAt.drew {w : World} {F : Nat → Prop} {g : Nat} {r : RH} (h : RHeapAt w F g r) : RHeapAt w.drew F g r := let ⟨v, V, h⟩ := h; ⟨v, V, h.drew⟩
def PlayPost (w : World) (F : Nat → Prop) (p c : Nat) (e : Ending) (w' : World) : Prop := e = .returned (.bool true) ∧ PairAt w' (fun b => F b ∨ w.heap.size ≤ b) p (c + 1) ∧ Only F w w'
/-- What a call knows behind its address. -/
theorem PairP.fin {w w1 W : World} {F : Nat → Prop} {p c : Nat} {q : QH} {r : RH} {l : List Int} {F1 F2 F3 : Nat → Prop} {g gr : Nat} {v : Value} (h : PairP W (fun b => F b ∨ w1.heap.size ≤ b) p c q r l F1 F2 F3 g gr v) (hs : w.heap.size ≤ w1.heap.size) : PairAt W (fun b => F b ∨ w.heap.size ≤ b) p c :=
  PairAt.more ⟨q, r, l, F1, F2, F3, g, gr, v, h⟩ fun b _ hb => by
    rcases hb with hb | hb
    · exact .inl hb
    · exact .inr (by omega)
structure Begun (w w1 : World) (F : Nat → Prop) (p c : Nat) (q : QH) (r : RH) (l : List Int) (F1 F2 F3 : Nat → Prop) (g gr : Nat) (v : Value) (k who near a i x : Int) : Prop where
  pr : PairP w1 F p c q r l F1 F2 F3 g gr v
  below : Below w.heap.size w w1
  lt : w.heap.size < w1.heap.size
  fs : ∀ b, F b → b < w.heap.size
  b0 : w1.cell? ⟨w.heap.size, 0, none⟩ = some (.int .i64 k)
  b3 : w1.cell? ⟨w.heap.size, 3, none⟩ = some (.int .i64 a)
  b4 : w1.cell? ⟨w.heap.size, 4, none⟩ = some (.int .i64 i)
  b5 : w1.cell? ⟨w.heap.size, 5, none⟩ = some (.int .i64 x)
theorem begun {w w1 : World} {F : Nat → Prop} {p c : Nat} {q : QH} {r : RH} {l : List Int} {F1 F2 F3 : Nat → Prop} {g gr : Nat} {v : Value} (H : PairP w F p c q r l F1 F2 F3 g gr v) (hF : ∀ b, F b → b < w.heap.size) (k who near a i x : Int)
    (hb : Below (w.alloc (.cells #[.int .i64 k, .int .i64 who, .int .i64 near, .int .i64 a, .int .i64 i, .int .i64 x] 30)).heap.size (w.alloc (.cells #[.int .i64 k, .int .i64 who, .int .i64 near, .int .i64 a, .int .i64 i, .int .i64 x] 30)) w1) :
    Begun w w1 F p c q r l F1 F2 F3 g gr v k who near a i x := by
  have hb0 : Below w.heap.size w w1 := ((Below.refl _ _).alloc (Nat.le_refl _) _).trans (hb.mono (by simp))
  obtain ⟨hc, _⟩ := bcell hb
  refine ⟨H.only (Only.ofBelow (F := fun _ => False) hb0) (fun _ _ _ h => h), hb0, by have := hb.size; simp at this; omega, hF, ?_, ?_, ?_, ?_⟩
  all_goals exact (hc _ _ (by simp)).trans (by simp)
set_option maxRecDepth 100000 in
set_option maxHeartbeats 8000000 in
theorem plays_make (w : World) (F : Nat → Prop) (p c : Nat) (q : QH) (r : RH) (l : List Int) (F1 F2 F3 : Nat → Prop) (g gr : Nat) (v : Value) (H : PairP w F p c q r l F1 F2 F3 g gr v) (hF : ∀ b, F b → b < w.heap.size) (hcc : c + 1 < 900000) (who near a i x : Int) (ha : i64in a) (hn : i64in near) :
    Calls Try.prog 12 #[.pointer (some ⟨p, 0, none⟩), .agg #[.int .i64 1, .int .i64 who, .int .i64 near, .int .i64 a, .int .i64 i, .int .i64 x]] w (PlayPost w F p c) := by
  have AC := Lib.hid (address_c _ F p c q r l F1 F2 F3 g gr v (H.only ((Only.refl (fun _ => False) w).alloc (.cells #[.int .i64 1, .int .i64 who, .int .i64 near, .int .i64 a, .int .i64 i, .int .i64 x] 30)) (fun _ _ _ h => h)) 1 who near a i x ha hn)
  have BG := Lib.hid (fun w1 => begun (w1 := w1) H hF 1 who near a i x)
  clear H hF
  go_enter Try.func12, Try.ntmps12
  go_wp2_with fail
  refine AC.out.mono ?_
  rintro e w1 ⟨ad, rfl, hadr, hb⟩
  have B := Lib.hid (BG.out w1 hb)
  clear BG hb AC
  have c0 : w1.cell? ⟨p, 0, none⟩ = some (.pointer (some ⟨g, 0, none⟩)) := B.out.pr.box.cell 0
  have c1 : w1.cell? ⟨p, 1, none⟩ = some (.pointer (some ⟨gr, 0, none⟩)) := B.out.pr.box.cell 1
  have c2 : w1.cell? ⟨p, 2, none⟩ = some v := B.out.pr.box.cell 2
  have b0 := B.out.b0
  have b3 := B.out.b3
  have hbl := B.out.lt
  have hpl := B.out.pr.box.lt
  go_wp2_with fail
  have MC := Lib.hid (fun W (hW : HeapAt W F1 g c q) => make_c W F1 g c q a hW B.out.pr.both.ok (by omega) ha)
  have HP1 : Hid (HeapAt w1.drew F1 g c q) := B.out.pr.hp
  have NP : Hid (¬ F1 p) := B.out.pr.np.1
  have NB : Hid (¬ F1 w.heap.size) := fun h => by have := B.out.fs _ (B.out.pr.f1 _ h).1; omega
  go_region_held3 (fun w' => w'.cell? ⟨p, 0, none⟩ = some (.pointer (some ⟨g, 0, none⟩)) ∧ w'.cell? ⟨w.heap.size, 3, none⟩ = some (.int .i64 a))
    (first | (go_keep; done) | (go_split_ands; exact ⟨e1, e2⟩))
    ((go_at_call 15; refine (MC.out _ HP1.out).mono ?_; rintro e w2 ⟨rfl, hh, ho⟩; have HH := Lib.hid hh; have HO := Lib.hid (show Only F1 w1 w2 from ⟨ho.os, ho.tape, ho.output, ho.size, ho.block⟩); have e1 : w2.cell? ⟨p, 0, none⟩ = some (.pointer (some ⟨g, 0, none⟩)) := (HO.out.cell hpl NP.out).trans c0; have e2 : w2.cell? ⟨w.heap.size, 3, none⟩ = some (.int .i64 a) := (HO.out.cell hbl NB.out).trans b3; clear hh ho))
  have HP2 : Hid (RHeapAt w2.drew F2 gr r) := (B.out.pr.heap1 HO.out).2.1.drew
  have TK := Lib.hid B.out.pr.both.tk
  have RC := Lib.hid (fun W (hW : RHeapAt W F2 gr r) => rmake_c W F2 gr r a hW (by rw [← TK.out]; exact B.out.pr.both.ok.1) (by rw [← TK.out]; exact B.out.pr.both.ok.2.1) (by have := B.out.pr.cN; have := B.out.pr.cc; omega) ha)
  have NP2 : Hid (¬ F2 p) := B.out.pr.np.2.1
  have NB2 : Hid (¬ F2 w.heap.size) := fun h => by have := B.out.fs _ (B.out.pr.f2 _ h).1; omega
  have e3 : w2.cell? ⟨p, 1, none⟩ = some (.pointer (some ⟨gr, 0, none⟩)) := (HO.out.cell hpl NP.out).trans c1
  have hs2 := HO.out.size
  have f1 : w2.cell? ⟨p, 2, none⟩ = some v := (HO.out.cell hpl NP.out).trans c2
  have FR : w2.frozen? ⟨p, 2, none⟩ = false := (B.out.pr.heap1 HO.out).1.frozen 2
  clear c0 c1 c2 b0 b3
  go_wp2_with fail
  go_region_held3 (fun w' => w'.cell? ⟨p, 1, none⟩ = some (.pointer (some ⟨gr, 0, none⟩)) ∧ w'.cell? ⟨w.heap.size, 3, none⟩ = some (.int .i64 a))
    (first | (go_keep; done) | (go_split_ands; exact ⟨e4, e5⟩))
    ((go_at_call 22; refine (RC.out _ HP2.out).mono ?_; rintro e w3 ⟨rfl, hh3, ho3⟩; have HH3 := Lib.hid (show RHeapAt w3 (fun b => F2 b ∨ w2.heap.size ≤ b) gr (r.make a) from hh3); have HO3 := Lib.hid (show Only F2 w2 w3 from ⟨ho3.os, ho3.tape, ho3.output, ho3.size, ho3.block⟩); have e4 : w3.cell? ⟨p, 1, none⟩ = some (.pointer (some ⟨gr, 0, none⟩)) := (HO3.out.cell (by omega) NP2.out).trans e3; have e5 : w3.cell? ⟨w.heap.size, 3, none⟩ = some (.int .i64 a) := (HO3.out.cell (by omega) NB2.out).trans e2; have f2 : w3.cell? ⟨p, 2, none⟩ = some v := (HO3.out.cell (by omega) NP2.out).trans f1; clear hh3 ho3))
  have DN := Lib.hid (B.out.pr.done HO.out HH.out HO3.out HH3.out (B.out.pr.both.make a) hcc (by
    have := B.out.pr.cN
    show (r.make a).N ≤ c + 1
    unfold RH.make
    split
    · show r.N + 1 ≤ c + 1; omega
    · omega) (by
    intro k hk
    unfold RH.make at hk ⊢
    split at hk
    · rename_i hf
      rw [if_pos hf]
      have hk' : k < r.N + 1 := hk
      show ((r.push (r.tk + 1) a).X k 1).length ≤ c + 1
      by_cases he : k = r.N
      · rw [he, push_X_new]; simp
      · rw [push_X_old _ _ _ (by omega)]; exact Nat.le_succ_of_le (B.out.pr.cX k (by omega))
    · rename_i hf
      rw [if_neg hf]; exact Nat.le_succ_of_le (B.out.pr.cX k hk)))
  clear e1 e2 e3 e4 e5 f1
  have hs3 := HO3.out.size
  have ON (W : World) (h : Only F w1 W) : Only F w W := ⟨h.os.trans B.out.below.os, h.tape.trans B.out.below.tape, h.output.trans B.out.below.output, Nat.le_trans B.out.below.size h.size, fun b hb hf => (h.block b (by omega) hf).trans (B.out.below.block b hb)⟩
  have HON := Lib.hid ON
  clear ON
  have HTK := Lib.hid TK.out.symm
  cases hf : fitsB q.tk a with
  | false =>
    have E1 := Lib.hid (show makeA q.tk a = 0 by rw [makeA, hf]; rfl)
    rw [← TK.out, hf, E1.out]
    clear hf
    go_wp2_with fail
    go_ret
    exact ⟨rfl, DN.out.1.fin (by omega), HON.out _ DN.out.2⟩
  | true =>
    have E1 := Lib.hid (show makeA q.tk a = q.tk + 1 by rw [makeA, hf]; rfl)
    obtain ⟨q1, q2, _⟩ := B.out.pr.both.ok
    have hfa := (fitsB_iff q.tk a).1 hf
    rw [← TK.out, hf, E1.out]
    have c2 : w3.cell? ⟨p, 2, none⟩ = some v := DN.out.1.box.cell 2
    have NE := World.new_ne w3 _ c2
    obtain ⟨i0, hI, hz0, hz1, hz2⟩ := info_parts info3
    have HI := Lib.hid hI
    have HZ0 := Lib.hid hz0
    have HZ1 := Lib.hid hz1
    have HZ2 := Lib.hid hz2
    have OW := Lib.hid DN.out.1.rw.1
    have hll := B.out.pr.cl
    have VP := Lib.hid (own_blk_ne OW.out DN.out.1.box (by decide))
    have FP : w3.frozen? ⟨p, 2, none⟩ = false := DN.out.1.box.frozen 2
    have hp3 : p < w3.heap.size := by omega
    clear hf hI hz0 hz1 hz2 f2
    go_wp2_with (at_builtin; go_must (refine wpList_append_lies _ rfl (.tmp 51) (.tmp 53) 32 rfl 0 3 i0 _ 1 8 Try.underlying32 HI.out HZ0.out HZ1.out HZ2.out rfl (by omega) v l.length (nums l) rfl ((OW.out.drew).alloc _) ⟨w3.heap.size, 0, none⟩ 1 1 [.int .i64 (q.tk + 1)] rfl rfl (World.news_of_block (cs := #[.int .i64 (q.tk + 1)]) (t := 3) (fr := (0, 0)) (heap_alloc_new _ _)) (by simp [Value.oneCell']) (by omega) (by unfold maxLen; omega) (by omega) (Nat.zero_le _) (w3.heap.size + 1) (by simp) ?_); go_must (intro gg cap' w4 hown hgrow hat hlt; have e1 : w4.cell? ⟨p, 2, none⟩ = some v := (by rw [hgrow.cell_far _ (by simp; omega) (Ne.symm VP.out)]; go_keep); have e2 : w4.frozen? ⟨p, 2, none⟩ = false := (by rw [hgrow.frozen_far _ (by simp; omega) (Ne.symm VP.out)]; exact (frozen?_alloc_cells _ _ _ _).trans FP); have HW := Lib.hid hown; have HG := Lib.hid hgrow; have HA := Lib.hid hat; clear hown hgrow hat c2 FP))
    go_ret
    have P1 := PairP.only DN.out.1 ((Only.refl (fun _ => False) w3).alloc (.cells #[.int .i64 (q.tk + 1)] 3)) (fun _ _ _ h => h)
    have P2 := P1.pushed (v1 := .slice (some ⟨gg, 0, none⟩) (l.length + 1) cap') HW.out HG.out (Hb := w3.heap.size + 1) (by
      rcases HA.out with h | h
      · exact .inl h.symm
      · exact .inr (by rw [← h]; rfl)) (by simp) (by omega) (y := q.tk + 1) (by omega)
    refine ⟨rfl, PairAt.more ⟨_, _, _, _, _, _, _, _, _, P2.1⟩ ?_, HON.out _ ((DN.out.2.alloc _).trans P2.2 fun x hx h => h.resolve_right (by omega))⟩
    rintro b _ ((hb | hb) | hb)
    · exact .inl hb
    · exact .inr (by omega)
    · exact .inr (by simp at hb; omega)
end Go.Proofs.Ytoakmifihofpeaa
