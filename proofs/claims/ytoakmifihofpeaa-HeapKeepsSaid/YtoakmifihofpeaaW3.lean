/- The walk of the document's own heap: a new block. -/
import Derived.Test.YtoakmifihofpeaaW2
import Derived.Deep.RegionHeld3
set_option linter.unusedVariables false
set_option linter.unusedSimpArgs false
namespace Go.Proofs.Ytoakmifihofpeaa
open Go.RowKit
theorem info60 : (Try.prog.info? 60).map (fun i => (i.zero, i.size, i.bytes)) = some (some (.agg #[.int .i64 0, .int .i64 0, .slice none 0 0, .slice none 0 0, .slice none 0 0]), 5, 88) := by kernel_rfl
theorem info3 : (Try.prog.info? 3).map (fun i => (i.zero, i.size, i.bytes)) = some (some (.int .i64 0), 1, 8) := by kernel_rfl
def RH.make (r : RH) (n : Int) : RH := if fitsB r.tk n = true then (r.push (r.tk + 1) n).took (r.tk + n + 1) else r
theorem rmake_no (w : World) (F : Nat → Prop) (g : Nat) (r : RH) (n : Int) (h : RHeapAt w F g r) (q1 : 0 ≤ r.tk) (q2 : r.tk ≤ 4611686018427387904) (hn : i64in n) (hf : fitsB r.tk n = false) :
    Calls Try.prog 22 #[.pointer (some ⟨g, 0, none⟩), .int .i64 n] w fun e w' => e = .returned (.tuple #[.int .i64 0, .bool false]) ∧ w = w' := by
  obtain ⟨v, V, hr⟩ := h
  have c1 : w.cell? ⟨g, 1, none⟩ = some (.int .i64 r.tk) := hr.blk.cell 1
  have hf' : ¬ (0 ≤ n ∧ n < 4611686018427387904 - r.tk) := by rw [← fitsB_iff, hf]; simp
  obtain ⟨n0, n1⟩ := hn
  clear hr hf
  generalize r.tk = tk at *
  by_cases h0 : n < 0
  · clear hf'
    go_enter Try.func22, Try.ntmps22
    go_wp2
    go_ret2
    exact ⟨rfl, rfl⟩
  · have h1 : 4611686018427387903 - tk < n := by omega
    clear hf'
    go_enter Try.func22, Try.ntmps22
    go_wp2
    go_ret2
    exact ⟨rfl, rfl⟩
theorem rmake_yes (w : World) (F : Nat → Prop) (g : Nat) (r : RH) (n : Int) (h : RHeapAt w F g r) (q1 : 0 ≤ r.tk) (q2 : r.tk ≤ 4611686018427387904) (hN : r.N ≤ 1000000) (hf : fitsB r.tk n = true) :
    Calls Try.prog 22 #[.pointer (some ⟨g, 0, none⟩), .int .i64 n] w fun e w' => e = .returned (.tuple #[.int .i64 (r.tk + 1), .bool true]) ∧ RHeapAt w' (fun b => F b ∨ w.heap.size ≤ b) g (r.make n) ∧ Only F w w' := by
  obtain ⟨v, V, hr⟩ := h
  have E := Lib.hid (show r.make n = (r.push (r.tk + 1) n).took (r.tk + n + 1) by rw [RH.make, if_pos hf])
  rw [fitsB_iff] at hf
  obtain ⟨n0, n1⟩ := hf
  have c0 : w.cell? ⟨g, 0, none⟩ = some v := hr.blk.cell 0
  have c1 : w.cell? ⟨g, 1, none⟩ = some (.int .i64 r.tk) := hr.blk.cell 1
  have hgl := hr.blk.lt
  obtain ⟨i0, hi, hz0, hz1, hz2⟩ := info_parts info60
  have HI := Lib.hid hi
  have HZ0 := Lib.hid hz0
  have HZ1 := Lib.hid hz1
  have HZ2 := Lib.hid hz2
  clear hi hz0 hz1 hz2
  have HR := Lib.hid hr
  clear hr
  obtain ⟨tk, htk⟩ : ∃ t, t = r.tk := ⟨_, rfl⟩
  rw [← htk] at c1 q1 q2 n1
  have HT := Lib.hid htk
  rw [← htk]
  clear htk
  go_enter Try.func22, Try.ntmps22
  go_wp2_with (at_builtin; go_must (refine wpList_append_lies _ rfl (.tmp 27) (.tmp 31) 56 rfl 0 60 i0 _ 5 88 Try.underlying56 HI.out HZ0.out HZ1.out HZ2.out rfl (by omega) v r.N (cells r V) rfl (HR.out.row.1.alloc _) ⟨w.heap.size, 0, none⟩ 1 1 [.int .i64 (tk + 1), .int .i64 n, .slice none 0 0, .slice none 0 0, .slice none 0 0] rfl rfl (World.news_of_block (heap_alloc_new w _)) (by simp [Value.oneCell']) (by omega) (by unfold maxLen; omega) (by omega) (Nat.zero_le _) (w.heap.size + 1) (by simp) ?_); go_must (intro gg cap1 w1 hown hgrow hat hlt; have HO := Lib.hid hown; have HG := Lib.hid hgrow; have HA := Lib.hid hat; clear hown hgrow hat; have B1 : Blk w1 g 58 #[v, .int .i64 tk] := (by rw [HT.out]; exact (HR.out.blk.alloc _).grown HG.out (fun e => own_blk_ne HR.out.row.1 HR.out.blk (by decide) e.symm)); have d0 := (B1.cell 0); have d1 := (B1.cell 1); have f0 := B1.frozen 0; have f1 := B1.frozen 1; clear B1 c0 c1))
  go_ret2
  have hsz : w.heap.size ≤ (w.alloc (.cells #[.int .i64 (tk + 1), .int .i64 n, .slice none 0 0, .slice none 0 0, .slice none 0 0] 60)).heap.size := by simp
  refine ⟨by simp, ?_, ?_⟩
  · rw [E.out, ← HT.out]
    have K := ((HR.out.alloc (.cells #[.int .i64 (tk + 1), .int .i64 n, .slice none 0 0, .slice none 0 0, .slice none 0 0] 60)).pushed (v1 := .slice (some ⟨gg, 0, none⟩) (r.N + 1) cap1) HO.out HG.out (H := w.heap.size + 1) (by rcases HA.out with e | e; exact .inl e.symm; exact .inr (by rw [e]; rfl)) (by simp)).more (G := fun b => F b ∨ w.heap.size ≤ b) (fun b hb hf => by
      rcases hf with hf | hf
      · exact .inl hf
      · exact .inr (Nat.le_trans hsz hf))
    exact ⟨_, _, K.tookTo _⟩
  · exact (((((Only.refl F w).alloc _).grown HG.out (fun k hk => .inl (HR.out.row.2 k hk))).setCell (p := ⟨g, 0, none⟩) (.inl HR.out.fg) _).setCell (p := ⟨g, 1, none⟩) (.inl HR.out.fg) _)
theorem rmake_c (w : World) (F : Nat → Prop) (g : Nat) (r : RH) (n : Int) (h : RHeapAt w F g r) (q1 : 0 ≤ r.tk) (q2 : r.tk ≤ 4611686018427387904) (hN : r.N ≤ 1000000) (hn : i64in n) :
    Calls Try.prog 22 #[.pointer (some ⟨g, 0, none⟩), .int .i64 n] w fun e w' => e = .returned (.tuple #[.int .i64 (makeA r.tk n), .bool (fitsB r.tk n)]) ∧ RHeapAt w' (fun b => F b ∨ w.heap.size ≤ b) g (r.make n) ∧ Only F w w' := by
  cases hf : fitsB r.tk n with
  | false =>
    refine (rmake_no w F g r n h q1 q2 hn hf).mono fun e w' he => ?_
    obtain ⟨rfl, rfl⟩ := he
    have e1 : makeA r.tk n = 0 := by rw [makeA, hf]; rfl
    have e2 : r.make n = r := by rw [RH.make, hf]; rfl
    rw [e1, e2]
    obtain ⟨v, V, hr⟩ := h
    exact ⟨rfl, ⟨v, V, hr.more fun b _ hb => .inl hb⟩, Only.refl _ _⟩
  | true =>
    have e1 : makeA r.tk n = r.tk + 1 := by rw [makeA, hf]; rfl
    rw [e1]
    exact rmake_yes w F g r n h q1 q2 hN hf
end Go.Proofs.Ytoakmifihofpeaa
