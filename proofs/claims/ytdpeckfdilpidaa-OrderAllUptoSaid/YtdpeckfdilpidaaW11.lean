/- shifted: what it makes. -/
import Derived.Test.YtdpeckfdilpidaaW5
set_option linter.unusedVariables false
set_option linter.unusedSimpArgs false
namespace Go.Proofs.Ytdpeckfdilpidaa
open Go.RowKit
attribute [local go_sem ↓] Go.wp_at_zero Go.wp_at_succ
def ShiftedPost (w : World) (l : List Int) (e : Ending) (w' : World) : Prop := ∃ v, e = .returned v ∧ Row w' (fun b => w.heap.size ≤ b) 3 1 v l.length (nums l) ∧ Below w.heap.size w w'
structure SI (w wr : World) (G : Nat → Prop) (A : Option Addr) (l : List Int) (by_ : Int) (ov : Value) (t : Nat) : Prop where
  rl : RL wr G A l
  row : Row wr (fun b => w.heap.size ≤ b) 3 1 ov t (nums ((l.take t).map (· + by_)))
  below : Below w.heap.size w wr
theorem SI.added {w wr w4 : World} {G : Nat → Prop} {A : Option Addr} {l : List Int} {by_ : Int} {ov v1 : Value} {t : Nat} {obj : Obj} (h : SI w wr G A l by_ ov t) (hG : ∀ k, G k → k < w.heap.size) (ht : t < l.length)
    (hown : w4.ownsRow 0 3 1 v1 (t + 1) (nums ((l.take t).map (· + by_)) ++ [.int .i64 (l.getD t 0 + by_)])) (hg : (wr.alloc obj).grownBy w4 ov.ownBlock) (hat : v1.ownBlock = ov.ownBlock ∨ ∃ k, v1.ownBlock = some k ∧ wr.heap.size ≤ k) : SI w w4 G A l by_ v1 (t + 1) := by
  have hB := h.below.size
  have o : Only (fun k => ov.ownBlock = some k) wr w4 := ((Only.refl _ wr).alloc obj).grown hg fun k hk => .inl hk
  refine ⟨h.rl.only o (fun k _ hk hf => ?_), ⟨?_, fun k hk => ?_⟩, h.below.trans (o.toBelow hB fun k hk hf => ?_)⟩
  · have := hG k hk
    have := h.row.2 k hf; omega
  · have e : nums ((l.take (t + 1)).map (· + by_)) = nums ((l.take t).map (· + by_)) ++ [.int .i64 (l.getD t 0 + by_)] := by
      rw [List.take_add_one, List.map_append, ← nums_append]
      congr 1
      simp [nums, List.getElem?_eq_getElem ht, List.getD_eq_getElem?_getD]
    rw [e]; exact hown
  · rcases hat with e | ⟨k', e, hk'⟩
    · exact h.row.2 k (by rw [← e]; exact hk)
    · rw [e] at hk; injection hk with hk; omega
  · have := h.row.2 k hf; omega
set_option maxRecDepth 100000 in
set_option maxHeartbeats 8000000 in
theorem shifted_c (w : World) (G : Nat → Prop) (A : Option Addr) (cap : Nat) (l : List Int) (h : RL w G A l) (hG : ∀ k, G k → k < w.heap.size) (by_ : Nat) (hb : by_ ≤ 1000000) (hl : l.length ≤ 1000000) (hx : ∀ i, i < l.length → 0 ≤ l.getD i 0 ∧ l.getD i 0 ≤ 1000000) :
    Calls Try.prog 18 #[.slice A l.length cap, .int .i64 (by_ : Int)] w (ShiftedPost w (l.map (· + (by_ : Int)))) := by
  have HG := Lib.hid hG
  have HX := Lib.hid hx
  have S0 : Hid (SI w w G A l by_ (.slice none 0 0) 0) := ⟨h, by simpa [nums] using Row.nil_ _ _ _ _, Below.refl _ _⟩
  have FIN := Lib.hid (fun (w' : World) (v : Value) (hs : SI w w' G A l by_ v l.length) => show ShiftedPost w (l.map (· + (by_ : Int))) (.returned v) w' from ⟨v, rfl, by rw [List.length_map]; have := hs.row; rwa [List.take_length] at this, hs.below⟩)
  have TOP := Lib.hid (fun (wr : World) (v : Value) (t : Nat) (hs : SI w wr G A l by_ v t) (ht : t < l.length) => show (∃ b off, A = some ⟨b, off, none⟩ ∧ wr.cell? ⟨b, off + t, none⟩ = some (.int .i64 (l.getD t 0))) from let ⟨_, b, off, h1, _, _, h2⟩ := hs.rl.2 t ht; ⟨b, off, h1, h2⟩)
  obtain ⟨L, hL⟩ : ∃ L, L = l.length := ⟨_, rfl⟩
  have HL := Lib.hid hL
  rw [← hL] at hl ⊢
  clear h hG hx hL
  go_enter Try.func18, Try.ntmps18
  go_wp2_with fail
  go_loopw [5, 6] (fun ov iv wr => ∃ t : Nat, t ≤ L ∧ iv = .int .i64 (t : Int) ∧ Hid (SI w wr G A l by_ ov t)) (fun _ iv _ => L - (intOf iv).toNat)
  case atStart => exact ⟨0, by omega, rfl, S0⟩
  case round =>
    clear S0
    obtain ⟨t, ht, rfl, HS⟩ := hrel
    by_cases htl : t < L
    · obtain ⟨b, off, rfl, cx⟩ := TOP.out _ _ _ HS.out (by rw [← HL.out]; exact htl)
      obtain ⟨x0, x1⟩ := HX.out t (by rw [← HL.out]; exact htl)
      obtain ⟨y, hy⟩ : ∃ y, y = l.getD t 0 := ⟨_, rfl⟩
      have ADD := Lib.hid (fun w4 v1 => HS.out.added (w4 := w4) (v1 := v1) (obj := .cells #[.int .i64 (l.getD t 0 + by_)] 3) HG.out (by rw [← HL.out]; exact htl))
      rw [← hy] at cx x0 x1 ADD
      have DR := Lib.hid HS.out.row.1
      obtain ⟨Ao, co, rfl, hoc⟩ := HS.out.row.shape
      clear FIN TOP HS hy
      obtain ⟨i0, hI, hz0, hz1, hz2⟩ := info_parts info3
      have HI := Lib.hid hI
      have HZ0 := Lib.hid hz0
      have HZ1 := Lib.hid hz1
      have HZ2 := Lib.hid hz2
      clear hI hz0 hz1 hz2
      go_wp2_with (at_builtin; go_must (refine wpList_append_lies _ rfl (.tmp 13) (.tmp 20) 27 rfl 0 3 i0 _ 1 8 Try.underlying27 HI.out HZ0.out HZ1.out HZ2.out rfl (by omega) (.slice Ao t co) t _ rfl (DR.out.alloc _) ⟨wr.heap.size, 0, none⟩ 1 1 [.int .i64 (y + (by_ : Int))] rfl rfl (World.news_of_block (cs := #[.int .i64 (y + (by_ : Int))]) (t := 3) (fr := (0, 0)) (heap_alloc_new _ _)) (by simp [Value.oneCell']) (by omega) (by unfold maxLen; omega) (by omega) (Nat.zero_le _) (wr.heap.size + 1) (by simp) ?_); go_must (intro gg cap' w4 hown hgrow hat hlt4; have HW := Lib.hid hown; have HGr := Lib.hid hgrow; have HA := Lib.hid hat; clear hown hgrow hat))
      go_roundw
      case rel => exact ⟨t + 1, by omega, by go_num, ADD.out _ _ HW.out HGr.out (HA.out.imp (fun e => e.symm) (fun e => ⟨gg, rfl, by omega⟩))⟩
      case measure => first | (simp [intOf]; done) | (simp [intOf]; omega)
    · have E := Lib.hid (FIN.out _ _ (by have := HS.out; have e : t = l.length := by rw [← HL.out]; omega
                                         rw [e] at this; exact this))
      clear FIN TOP
      go_wp2_with fail
      go_ret
      exact E.out
end Go.Proofs.Ytdpeckfdilpidaa
