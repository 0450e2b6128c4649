/- R16Rests' full: how each of the four ends, as a plain thing. -/
import Derived.Test.YtkjfbojmkkdgoaaL6
import Derived.Test.YtkjfbojmkkdgoaaL9
set_option linter.unusedVariables false
set_option linter.unusedSimpArgs false
namespace Go.Proofs.Ytkjfbojmkkdgoaa
open Go.RowKit
theorem evs_at : ∀ (xs : List (Int × Int)) (i : Nat) (e : Int × Int), xs[i]? = some e → (evs xs)[2 * i]? = some (.int .i64 e.1) ∧ (evs xs)[2 * i + 1]? = some (.int .i64 e.2)
  | [], i, e, h => by simp at h
  | x :: xs, 0, e, h => by
    have : x = e := by simpa using h
    subst this
    exact ⟨rfl, rfl⟩
  | x :: xs, i + 1, e, h => by
    have h2 : xs[i]? = some e := by simpa using h
    obtain ⟨a, b⟩ := evs_at xs i e h2
    have e1 : 2 * (i + 1) = 2 * i + 1 + 1 := by omega
    rw [e1]
    exact ⟨a, b⟩
structure FE (x : Ins) (F k v : Int) (q : MQ) : Prop where
  fin : q.fin = F
  kind : q.kind = k
  val : q.val = v
  depth : q.depth = 1
  tk : q.hp.tk = 0
  steps : q.steps = 2097156
  ev : (q.ev.length : Int) = 1048576
  e0 : q.ev[0]? = some (1, 524288)
  e1 : q.ev[1048575]? = some (2, 1)
theorem full_end (x : Ins) (F k v : Int) (hF : ¬ F = 0) (hg : ∀ q, FI q 7 0 1048576 2097155 → goes (fullK x) q = true) (hn : ∀ q, FI q 7 0 1048576 2097155 → (next (fullK x) q).fin = F ∧ (next (fullK x) q).kind = k ∧ (next (fullK x) q).val = v ∧ (next (fullK x) q).depth = 1 ∧ (next (fullK x) q).hp.tk = 0 ∧ (next (fullK x) q).ev = q.ev) :
    FE x F k v (runN (fullK x) 1073741824 (newQ (fullK x) [])) := by
  obtain ⟨h, h1⟩ := full_ahead x
  have e : runN (fullK x) 1073741824 (newQ (fullK x) []) = runN (fullK x) (1071644668 + 1) (runN (fullK x) 2097155 (newQ (fullK x) [])) := by rw [← runN_add]
  rw [e]
  generalize runN (fullK x) 2097155 (newQ (fullK x) []) = q at *
  rw [runN_succ _ _ _ (hg q h)]
  obtain ⟨n1, n2, n3, n4, n5, n6⟩ := hn q h
  rw [runN_rest _ _ (goes_no (by rw [n1]; exact hF))]
  exact ⟨n1, n2, n3, n4, n5, by rw [next_steps, h.steps]; rfl, by rw [n6, h.ev]; rfl, by rw [n6]; exact h.e0 (by decide), by rw [n6]; exact h1⟩
theorem full_0 : FE ⟨27, 0, 0, 0, 0⟩ 1 0 0 (runN (fullK ⟨27, 0, 0, 0, 0⟩) 1073741824 (newQ (fullK ⟨27, 0, 0, 0, 0⟩) [])) := by
  refine full_end _ 1 0 0 (by decide) (fun q h => full_quiet h ⟨by show (27 : Int) ≠ 37; decide, by show (27 : Int) ≠ 38; decide⟩) fun q h => ?_
  have e : next (fullK ⟨27, 0, 0, 0, 0⟩) q = { q.tick with cl := [] }.fins 1 0 0 := by
    unfold next
    rw [show (fullK ⟨27, 0, 0, 0, 0⟩).X q.at_.toNat = ⟨27, 0, 0, 0, 0⟩ by rw [h.at_]; rfl]
    have hc : q.tick.cl = [0] := h.cl
    simp [act, hc]
  rw [e]
  exact ⟨rfl, rfl, rfl, h.depth, h.tk, rfl⟩
theorem full_1 : FE ⟨35, 4, 0, 0, 6⟩ 2 6 5 (runN (fullK ⟨35, 4, 0, 0, 6⟩) 1073741824 (newQ (fullK ⟨35, 4, 0, 0, 6⟩) [])) := by
  refine full_end _ 2 6 5 (by decide) (fun q h => full_quiet h ⟨by show (35 : Int) ≠ 37; decide, by show (35 : Int) ≠ 38; decide⟩) fun q h => ?_
  have e : next (fullK ⟨35, 4, 0, 0, 6⟩) q = q.tick.fins 2 6 5 := by
    unfold next
    rw [show (fullK ⟨35, 4, 0, 0, 6⟩).X q.at_.toNat = ⟨35, 4, 0, 0, 6⟩ by rw [h.at_]; rfl]
    have hc : q.tick.regs 4 = 5 := h.r4
    simp [act, hc]
  rw [e]
  exact ⟨rfl, rfl, rfl, h.depth, h.tk, rfl⟩
theorem full_2 : FE ⟨38, 4, 0, 0, 0⟩ 3 5 0 (runN (fullK ⟨38, 4, 0, 0, 0⟩) 1073741824 (newQ (fullK ⟨38, 4, 0, 0, 0⟩) [])) := by
  refine full_end _ 3 5 0 (by decide) (fun q h => ?_) fun q h => ?_
  · rw [goes_of h.fin]
    unfold rests
    rw [show (fullK ⟨38, 4, 0, 0, 0⟩).X q.at_.toNat = ⟨38, 4, 0, 0, 0⟩ by rw [h.at_]; rfl]
    have hc : q.regs 4 = 5 := h.r4
    simp [hc]
  have e : next (fullK ⟨38, 4, 0, 0, 0⟩) q = q.tick.fins 3 5 0 := by
    unfold next
    rw [show (fullK ⟨38, 4, 0, 0, 0⟩).X q.at_.toNat = ⟨38, 4, 0, 0, 0⟩ by rw [h.at_]; rfl]
    have hc : q.tick.regs 4 = 5 := h.r4
    simp [act, hc]
  rw [e]
  exact ⟨rfl, rfl, rfl, h.depth, h.tk, rfl⟩
theorem full_3 : FE ⟨36, 4, 0, 0, 0⟩ 2 5 0 (runN (fullK ⟨36, 4, 0, 0, 0⟩) 1073741824 (newQ (fullK ⟨36, 4, 0, 0, 0⟩) [])) := by
  refine full_end _ 2 5 0 (by decide) (fun q h => full_quiet h ⟨by show (36 : Int) ≠ 37; decide, by show (36 : Int) ≠ 38; decide⟩) fun q h => ?_
  have e : next (fullK ⟨36, 4, 0, 0, 0⟩) q = q.tick.fins 2 5 0 := by
    unfold next
    rw [show (fullK ⟨36, 4, 0, 0, 0⟩).X q.at_.toNat = ⟨36, 4, 0, 0, 0⟩ by rw [h.at_]; rfl]
    have hc : q.tick.inp = [] := h.inp
    simp [act, hc]
  rw [e]
  exact ⟨rfl, rfl, rfl, h.depth, h.tk, rfl⟩
theorem full_in (x : Ins) (hx : InsIn x) : ∀ i, i < 9 → InsIn (insOf (fullL x) i) := by
  have h0 := in_0
  intro i hi
  have h : i = 0 ∨ i = 1 ∨ i = 2 ∨ i = 3 ∨ i = 4 ∨ i = 5 ∨ i = 6 ∨ i = 7 ∨ i = 8 := by omega
  have hd : ∀ k : Int, 0 ≤ k → k ≤ 1000000 → i64in k := fun k h1 h2 => ⟨by omega, by omega⟩
  rcases h with rfl | rfl | rfl | rfl | rfl | rfl | rfl | rfl | rfl
  · exact ⟨hd 1 (by decide) (by decide), hd 2 (by decide) (by decide), h0, h0, hd 524288 (by decide) (by decide)⟩
  · exact ⟨hd 1 (by decide) (by decide), hd 3 (by decide) (by decide), h0, h0, hd 1 (by decide) (by decide)⟩
  · exact ⟨hd 1 (by decide) (by decide), hd 4 (by decide) (by decide), h0, h0, hd 5 (by decide) (by decide)⟩
  · exact ⟨hd 37 (by decide) (by decide), hd 2 (by decide) (by decide), h0, h0, h0⟩
  · exact ⟨hd 38 (by decide) (by decide), hd 3 (by decide) (by decide), h0, h0, h0⟩
  · exact ⟨hd 4 (by decide) (by decide), hd 2 (by decide) (by decide), hd 2 (by decide) (by decide), hd 3 (by decide) (by decide), h0⟩
  · exact ⟨hd 23 (by decide) (by decide), hd 2 (by decide) (by decide), h0, h0, hd 3 (by decide) (by decide)⟩
  · exact hx
  · exact ⟨hd 27 (by decide) (by decide), h0, h0, h0, h0⟩
theorem full_code (x : Ins) (hx : insOk 1 (mainF 2 9 0) x = true) : CodeOk 9 (insOf (fullL x)) 1 (mainF 2 9) 0 := by
  refine code_one (fullL x) 2 (by decide) (by decide) (by show 1 ≤ 9; decide) (fun j hj => ?_) (by kernel_rfl)
  have h : j = 0 ∨ j = 1 ∨ j = 2 ∨ j = 3 ∨ j = 4 ∨ j = 5 ∨ j = 6 ∨ j = 7 ∨ j = 8 := by have h2 : j < 9 := hj; omega
  rcases h with rfl | rfl | rfl | rfl | rfl | rfl | rfl | rfl | rfl
  all_goals first | exact hx | (show insOk _ _ _ = true; kernel_rfl)
theorem one_full {w : World} {A : Option Addr} {x : Ins} {F k v : Int} (hE : FE x F k v (runN (fullK x) 1073741824 (newQ (fullK x) []))) (h : Calls Try.prog 24 #[.slice A 9 9, .int .i64 2, .agg #[.int .i64 2, .int .i64 0], .slice none 0 0, .int .i64 1073741824] w fun e w' => ∃ v, e = .returned (.tuple #[outR (runN (fullK x) (1073741824 : Int).toNat (newQ (fullK x) [])) v, .bool true]) ∧ Row w' (fun b => w.heap.size ≤ b) 50 2 v (runN (fullK x) (1073741824 : Int).toNat (newQ (fullK x) [])).ev.length (evs (runN (fullK x) (1073741824 : Int).toNat (newQ (fullK x) [])).ev) ∧ Below w.heap.size w w') :
    Calls Try.prog 24 #[.slice A 9 9, .int .i64 2, .agg #[.int .i64 2, .int .i64 0], .slice none 0 0, .int .i64 1073741824] w fun e w' => ∃ eb n cap, e = .returned (.tuple #[.agg #[.slice (some ⟨eb, 0, none⟩) n cap, .int .i64 F, .int .i64 k, .int .i64 v, .int .i64 2097156, .int .i64 0, .int .i64 1], .bool true]) ∧ (n : Int) = 1048576 ∧ w'.cell? ⟨eb, 0, none⟩ = some (.int .i64 1) ∧ w'.cell? ⟨eb, 1, none⟩ = some (.int .i64 524288) ∧ w'.cell? ⟨eb, 2097150, none⟩ = some (.int .i64 2) ∧ w'.cell? ⟨eb, 2097151, none⟩ = some (.int .i64 1) ∧ Below w.heap.size w w' := by
  refine h.mono ?_
  have ht : (1073741824 : Int).toNat = 1073741824 := rfl
  rw [ht]
  rintro e w' ⟨v', rfl, hR, hb⟩
  generalize runN (fullK x) 1073741824 (newQ (fullK x) []) = qf at *
  obtain ⟨eb, cap, rfl, he0, he1, he2⟩ := hR.form (by have := hE.ev; omega)
  obtain ⟨a0, a1⟩ := evs_at _ _ _ hE.e0
  obtain ⟨b0, b1⟩ := evs_at _ _ _ hE.e1
  refine ⟨eb, qf.ev.length, cap, ?_, hE.ev, hR.cell (i := 0) a0, hR.cell (i := 1) a1, hR.cell (i := 2097150) b0, hR.cell (i := 2097151) b1, hb⟩
  unfold outR
  rw [hE.fin, hE.kind, hE.val, hE.steps, hE.tk, hE.depth]
end Go.Proofs.Ytkjfbojmkkdgoaa
