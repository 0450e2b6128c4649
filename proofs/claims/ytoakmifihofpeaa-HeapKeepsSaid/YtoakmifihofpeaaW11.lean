/- The pair: any call played; a pair made; a pair alive. -/
import Derived.Test.YtoakmifihofpeaaW10
set_option linter.unusedVariables false
set_option linter.unusedSimpArgs false
namespace Go.Proofs.Ytoakmifihofpeaa
open Go.RowKit
attribute [local go_sem ↓] Go.wp_at_zero Go.wp_at_succ
theorem plays_c (w : World) (F : Nat → Prop) (p c : Nat) (H : PairAt w F p c) (hF : ∀ b, F b → b < w.heap.size) (hcc : c + 1 < 900000) (k who near a i x : Int) (ha : i64in a) (hn : i64in near) (hx : i64in x) :
    Calls Try.prog 12 #[.pointer (some ⟨p, 0, none⟩), .agg #[.int .i64 k, .int .i64 who, .int .i64 near, .int .i64 a, .int .i64 i, .int .i64 x]] w (PlayPost w F p c) := by
  obtain ⟨q, r, l, F1, F2, F3, g, gr, v, H⟩ := H
  by_cases h1 : k = 1
  · subst h1; exact plays_make w F p c q r l F1 F2 F3 g gr v H hF hcc who near a i x ha hn
  by_cases h2 : k = 2
  · subst h2; exact plays_set w F p c q r l F1 F2 F3 g gr v H hF hcc who near a i x ha hn hx
  by_cases h3 : k = 3
  · subst h3; exact plays_len w F p c q r l F1 F2 F3 g gr v H hF hcc who near a i x ha hn
  by_cases h4 : k = 4
  · subst h4; exact plays_get w F p c q r l F1 F2 F3 g gr v H hF hcc who near a i x ha hn
  by_cases h5 : k = 5
  · subst h5; exact plays_words w F p c q r l F1 F2 F3 g gr v H hF hcc who near a i x ha hn
  exact plays_other w F p c q r l F1 F2 F3 g gr v H hF hcc k who near a i x h1 h2 h3 h4 h5 ha hn
def MadePost (w : World) (e : Ending) (w' : World) : Prop := ∃ p, e = .returned (.tuple #[.pointer (some ⟨p, 0, none⟩), .bool true]) ∧ PairAt w' (fun b => w.heap.size ≤ b ∧ b < w'.heap.size) p 0 ∧ Below w.heap.size w w'
theorem made_c (w : World) : Calls Try.prog 11 #[] w (MadePost w) := by
  go_enter Try.func11, Try.ntmps11
  go_wp2_with fail
  refine (new_c w).mono ?_
  rintro e w1 ⟨rfl, hh, hb⟩
  have HH := Lib.hid hh
  have HB := Lib.hid hb
  clear hh hb
  go_wp2_with fail
  refine (rnew_c w1).mono ?_
  rintro e w2 ⟨rfl, hr, hb2⟩
  have HR := Lib.hid hr
  have HB2 := Lib.hid hb2
  clear hr hb2
  go_wp2_with fail
  go_ret2
  have s1 := HB.out.size
  have s2 := HB2.out.size
  have g1 : w.heap.size + 2 < w1.heap.size := by obtain ⟨s, t, h, _⟩ := HH.out; exact h.lt
  have g2 : w1.heap.size < w2.heap.size := by obtain ⟨v, V, h⟩ := HR.out; exact h.blk.lt
  have oB : Only (fun _ => False) w1 w2 := Only.ofBelow HB2.out
  have oA : Only (fun _ => False) w2 (w2.alloc (.cells #[.pointer (some ⟨w.heap.size + 2, 0, none⟩), .pointer (some ⟨w1.heap.size, 0, none⟩), .slice none 0 0] 50)) := (Only.refl _ _).alloc _
  refine ⟨w2.heap.size, rfl, ?_, (HB.out.trans (HB2.out.mono s1)).trans (oA.toBelow (by omega) (fun _ _ h => h))⟩
  refine ⟨QH.empty, RH.empty, [], fun b => w.heap.size ≤ b ∧ b < w1.heap.size, fun b => w1.heap.size ≤ b ∧ b < w2.heap.size, fun _ => False, w.heap.size + 2, w1.heap.size, .slice none 0 0, ?_⟩
  refine ⟨Blk.new _ _ _, ?_, ?_, Row.nil_ _ _ _ _, ?_, ?_, ?_, fun b h => h.elim, ?_, Both.empty, by omega, Nat.le_refl _, fun k hk => absurd hk (Nat.not_lt_zero _), Nat.le_refl _, by simp⟩
  · exact ((HH.out.more fun b hb h => ⟨h, hb⟩).only oB (fun _ _ _ h => h)).only oA (fun _ _ _ h => h)
  · obtain ⟨v, V, h⟩ := HR.out
    exact ⟨v, V, (h.more fun b hb h => ⟨h, hb⟩).only oA (fun _ _ _ h => h)⟩
  · simp; omega
  · intro b hb; simp; omega
  · intro b hb; simp; omega
  · refine ⟨?_, ?_, fun h => h⟩ <;> omega
theorem PairAt.played {w W : World} {F G : Nat → Prop} {p c : Nat} {e : Ending} {k who near a i x : Int} (h : PlayPost w F p c e W) (hG : ∀ b, b < W.heap.size → F b ∨ w.heap.size ≤ b → G b) : PairAt W G p (c + 1) := h.2.1.more hG
def aliveNums : List Int := [1, 0, 0, 2, 0, 0, 1, 0, 0, 1, 0, 0, 2, 0, 0, 1, 1, 7, 4, 0, 0, 1, 1, 0, 3, 0, 0, 4, 0, 0, 5, 0, 0, 0, 0, 0]
/-- What a script's walk bears from round to round: the pair, its blocks among the call's own. -/
def Going (B p k : Nat) (w wr : World) : Prop := Below B w wr ∧ PairAt wr (fun b => B ≤ b ∧ b < wr.heap.size) p k
def GoingA (ob B p k : Nat) (w wr : World) : Prop := Below B w wr ∧ PairAt wr (fun b => B ≤ b ∧ b < wr.heap.size ∧ b ≠ ob) p k ∧ Blk wr ob 30 (nums aliveNums).toArray
theorem GoingA.next {ob B p k : Nat} {w wr W : World} {e : Ending} (h : GoingA ob B p k w wr) (hB : B ≤ wr.heap.size) (hp : PlayPost wr (fun b => B ≤ b ∧ b < wr.heap.size ∧ b ≠ ob) p k e W) : GoingA ob B p (k + 1) w W := by
  obtain ⟨h1, h2, h3⟩ := h
  have hs := hp.2.2.size
  refine ⟨h1.trans (hp.2.2.toBelow hB fun k hk hf => by omega), PairAt.played (i := 0) (k := 0) (who := 0) (near := 0) (a := 0) (x := 0) hp fun b hb hf => ?_, h3.only hp.2.2 fun hf => hf.2.2 rfl⟩
  have := h3.lt
  rcases hf with hf | hf
  · exact ⟨hf.1, hb, hf.2.2⟩
  · exact ⟨by omega, hb, by omega⟩
theorem alive_num (t : Nat) (ht : t < 36) : i64in (aliveNums.getD t 0) := by
  have h : ∀ t, t < 36 → -9223372036854775808 ≤ aliveNums.getD t 0 ∧ aliveNums.getD t 0 ≤ 9223372036854775807 := by decide
  exact h t ht
set_option maxRecDepth 100000 in
set_option maxHeartbeats 4000000 in
theorem alive_c (w : World) : Calls Try.prog 10 #[] w fun e w' => e = .returned (.bool true) ∧ Below w.heap.size w w' := by
  go_enter Try.func10, Try.ntmps10
  go_wp2_with fail
  refine (made_c w).mono ?_
  rintro e w1 ⟨p, rfl, hp, hb⟩
  have HP := Lib.hid hp
  have HB := Lib.hid hb
  clear hp hb
  have hs : w.heap.size ≤ w1.heap.size := HB.out.size
  have E : Hid (GoingA w1.heap.size w.heap.size p 0 w (w1.alloc (.cells (nums aliveNums).toArray 30))) := ⟨HB.out.alloc hs _, (HP.out.only ((Only.refl (fun _ => False) w1).alloc _) fun _ _ _ h => h).more fun b hb hf => ⟨hf.1, hb, by omega⟩, Blk.new _ _ _⟩
  go_wp2_with fail
  go_loopw [2, 4] (fun x i wr => ∃ k : Nat, k ≤ 6 ∧ i = .int .i64 (k : Int) ∧ x = .bool true ∧ Hid (GoingA w1.heap.size w.heap.size p k w wr)) (fun _ i _ => 6 - (intOf i).toNat)
  case atStart => exact ⟨0, by omega, rfl, rfl, E⟩
  case round =>
    obtain ⟨k, hk, rfl, rfl, HR⟩ := hrel
    by_cases hlt : k < 6
    · have hc (j : Nat) (hj : j < 6) : wr.cell? ⟨w1.heap.size, k * 6 + j, none⟩ = some (.int .i64 (aliveNums.getD (k * 6 + j) 0)) := (HR.out.2.2.cell _).trans (by rw [List.getElem?_toArray]; exact nums_get aliveNums (k * 6 + j) (by show _ < 36; omega))
      have c0 : wr.cell? ⟨w1.heap.size, k * 6, none⟩ = some (.int .i64 (aliveNums.getD (k * 6 + 0) 0)) := hc 0 (by omega)
      have c1 := hc 1 (by omega)
      have c2 := hc 2 (by omega)
      have c3 := hc 3 (by omega)
      have c4 := hc 4 (by omega)
      have c5 := hc 5 (by omega)
      have hn (j : Nat) (hj : j < 6) : i64in (aliveNums.getD (k * 6 + j) 0) := alive_num _ (by omega)
      have N := Lib.hid hn
      have hws : w.heap.size ≤ wr.heap.size := HR.out.1.size
      clear hc hn HP HB E
      generalize aliveNums.getD (k * 6 + 0) 0 = y0 at *
      have PC := Lib.hid (fun y1 => plays_c wr _ p k HR.out.2.1 (fun b h => h.2.1) (by omega) y0 y1 _ _ (aliveNums.getD (k * 6 + 4) 0) _ (N.out 3 (by omega)) (N.out 2 (by omega)) (N.out 5 (by omega)))
      generalize aliveNums.getD (k * 6 + 1) 0 = y1 at *
      generalize aliveNums.getD (k * 6 + 2) 0 = y2 at *
      generalize aliveNums.getD (k * 6 + 3) 0 = y3 at *
      generalize aliveNums.getD (k * 6 + 4) 0 = y4 at *
      generalize aliveNums.getD (k * 6 + 5) 0 = y5 at *
      go_wp2_with fail
      refine (PC.out _).mono ?_
      rintro e w2 hp
      have HN := Lib.hid (HR.out.next hws hp)
      obtain rfl := hp.1
      clear hp c0 c1 c2 c3 c4 c5
      go_wp2_with fail
      go_roundw
      case rel => exact ⟨k + 1, by omega, by go_num, rfl, HN⟩
      case measure => simp [intOf]; omega
    · have E := Lib.hid HR.out.1
      clear HR HP HB
      go_wp2_with fail
      go_ret
      exact ⟨rfl, E.out⟩
end Go.Proofs.Ytoakmifihofpeaa
