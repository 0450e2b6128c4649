/- OrderLine: the walk. -/
import Derived.Test.YtdpeckfdilpidaaW16
import Derived.Test.YtdpeckfdilpidaaW17
set_option linter.unusedVariables false
set_option linter.unusedSimpArgs false
namespace Go.Proofs.Ytdpeckfdilpidaa
open Go.RowKit
attribute [local go_sem ↓] Go.wp_at_zero Go.wp_at_succ
/-- The list that a line is. -/
def IsLine (len : Nat) (X : Nat → List Int) (l : List Int) : Prop := (¬ (Right len X ∧ 0 < len) ∧ l = []) ∨ (Right len X ∧ 0 < len ∧ ∃ s, Reach X s ∧ s.op = [] ∧ l = ofNats s.done.reverse)
theorem IsLine.one {len : Nat} {X : Nat → List Int} {l m : List Int} (h : IsLine len X l) (k : IsLine len X m) : l = m := by
  rcases h with ⟨h1, rfl⟩ | ⟨h1, h2, s, h3, h4, rfl⟩
  · rcases k with ⟨_, rfl⟩ | ⟨k1, k2, _⟩
    · rfl
    · exact absurd ⟨k1, k2⟩ h1
  · rcases k with ⟨k1, _⟩ | ⟨_, _, t, k3, k4, rfl⟩
    · exact absurd ⟨h1, h2⟩ k1
    · rw [h3.steps.end_ k3.steps h4 k4]
theorem LinePost.list {w w' : World} {len : Nat} {X : Nat → List Int} {e : Ending} (h : LinePost w len X e w') (hl : len ≤ 250000) :
    ∃ l A cap, e = .returned (.slice A l.length cap) ∧ IsLine len X l ∧ l.length ≤ len ∧ RL w' (fun k => w.heap.size ≤ k) A l ∧ Below w.heap.size w w' := by
  obtain ⟨v, rfl, hb, hc⟩ := h
  rcases hc with ⟨h1, rfl⟩ | ⟨h1, h2, s, h3, h4, h5⟩
  · exact ⟨[], none, 0, rfl, .inl ⟨h1, rfl⟩, Nat.zero_le _, ⟨by simp, fun i hi => absurd hi (Nat.not_lt_zero _)⟩, hb⟩
  · have hi := h3.inv h2 h1
    have hsz := hi.size
    have h5' : Row w' (fun k => w.heap.size ≤ k) 3 1 v s.done.reverse.length (nums (ofNats s.done.reverse)) := by rw [List.length_reverse]; exact h5
    obtain ⟨A, cap, rfl, hr⟩ := row_reads h5' (fun b hb => hi.done b (List.mem_reverse.1 hb)) (by omega) (by rw [List.length_reverse]; omega)
    exact ⟨ofNats s.done.reverse, A, cap, by rw [ofNats_length], .inr ⟨h1, h2, s, h3, h4, rfl⟩, by rw [ofNats_length, List.length_reverse]; omega, hr, hb⟩
set_option maxRecDepth 100000 in
set_option maxHeartbeats 16000000 in
theorem orderLine_c (w : World) (A : Option Addr) (len cap : Nat) (X : Nat → List Int) (r : RLL w (fun b => b < w.heap.size) A len X) (l1 : len ≤ 1048576) (s1 : ∀ k, k < len → (X k).length ≤ 1048576) :
    Calls Try.prog 3 #[.slice A len cap] w (WaysPost w) := by
  have AC := Lib.hid (alive_c w)
  have R := Lib.hid r
  have H1 := Lib.hid (fun (w' : World) (hb : Below w.heap.size w w') => heavy_c w' _ A len cap X (r.later hb) 20000 (by omega) (fun k hk => by have := s1 k hk; omega) (by omega))
  clear r s1
  by_cases g0 : 2000 < len
  · clear H1 R
    go_enter Try.func3, Try.ntmps3
    go_wp2_with (first | (go_at_call 9; refine AC.out.mono ?_; rintro e w1 ⟨rfl, hb1⟩; have HB := Lib.hid hb1; clear hb1))
    go_ret
    exact ⟨rfl, HB.out⟩
  by_cases g1 : 20000 < waysOf X len len
  · rw [decide_eq_true g1] at H1
    go_enter Try.func3, Try.ntmps3
    go_wp2_with (first | (go_at_call 9; refine AC.out.mono ?_; rintro e w1 ⟨rfl, hb1⟩; have HB := Lib.hid hb1; clear hb1) | (go_at_call 10; refine (H1.out _ HB.out).mono ?_; rintro e w2 ⟨rfl, rfl⟩))
    go_ret
    exact ⟨rfl, HB.out⟩
  rw [decide_eq_false g1] at H1
  have W1 := Lib.hid (fun k (hk : k < len) => ways_len g1 hk)
  have hlen : len ≤ 2000 := by omega
  have XL := Lib.hid (fun k (hk : k < len) => show (X k).length ≤ 250000 from by have := (W1.out k hk).2; omega)
  have LC := Lib.hid (fun (w' : World) (hb : Below w.heap.size w w') => lent_c w' A len cap X (R.out.later hb) (by omega) XL.out)
  have INT := Lib.hid (fun k (hk : k < len) => show (X k).length ≤ 1000000 ∧ ∀ i, i < (X k).length → i64in ((X k).getD i 0) from ⟨by have := (W1.out k hk).2; omega, R.out.ints hk⟩)
  clear g1
  go_enter Try.func3, Try.ntmps3
  go_wp2_with (first
    | (go_at_call 9; refine AC.out.mono ?_; rintro e w1 ⟨rfl, hb1⟩; have HB := Lib.hid hb1; clear hb1)
    | (go_at_call 10; refine (H1.out _ HB.out).mono ?_; rintro e w2 ⟨rfl, rfl⟩))
  refine (LC.out _ HB.out).mono ?_
  rintro e w3 ⟨lb, lc, fv, F, FL, V, b4, b5, rfl, hlc, hL, hb2⟩
  have HB2 := Lib.hid (HB.out.trans (hb2.mono HB.out.size))
  have LN := Lib.hid (line_c w3 _ _ len lc X (hL.reads (by omega) INT.out) (fun _ h => h) (by omega))
  have HL := Lib.hid hL
  have hs2 := hb2.size
  have hs1 : w.heap.size ≤ w1.heap.size := HB.out.size
  clear hL hb2 H1 AC LC INT W1
  go_wp2_with fail
  refine LN.out.mono ?_
  intro e w4 hpost
  obtain ⟨la, Aa, ca, rfl, hla, hlal, hra, hb4⟩ := hpost.list (by omega)
  have HB4 := Lib.hid (HB2.out.trans (hb4.mono HB2.out.size))
  have SC := Lib.hid (stays_c w4 A len cap X (fun b => b < w.heap.size) (R.out.only (Only.ofBelow (F := fun _ => False) HB4.out) (fun _ _ _ h => h)) w1.heap.size (fun b hb => Nat.lt_of_lt_of_le hb hs1) (by omega) XL.out lb lc fv F FL V b4 b5 (HL.out.later hb4) hlc)
  have HFT := Lib.hid HL.out.ft
  have HLA := Lib.hid hla
  have HRA := Lib.hid hra
  have hs4 := hb4.size
  clear hpost hla hra hb4 LN HL XL
  go_wp2_with fail
  refine SC.out.mono ?_
  rintro e w5 ⟨rfl, ho⟩
  have HB5 := Lib.hid (HB4.out.trans (ho.toBelow HB4.out.size (fun k hk hf => by have := HFT.out k (hf.imp (fun e => e) (fun e => .inl e)); omega)))
  have HR5 := Lib.hid (HRA.out.only ho (fun b _ hb hf => by have := HFT.out b (hf.imp (fun e => e) (fun e => .inl e)); omega))
  have RC := Lib.hid (ref_c w5 A len cap X (R.out.later HB5.out) (by omega))
  clear ho SC HRA
  go_wp2_with fail
  refine RC.out.mono ?_
  intro e w6 hpost
  obtain ⟨lr, Ar, cr, rfl, hlr, hlrl, hrr, hb6⟩ := hpost.list (by omega)
  obtain rfl := HLA.out.one hlr
  have HB6 := Lib.hid (HB5.out.trans (hb6.mono HB5.out.size))
  have SM := Lib.hid (same_c w6 _ _ Aa Ar la la ca cr (HR5.out.only (Only.ofBelow (F := fun _ => False) hb6) (fun _ _ _ h => h)) hrr)
  rw [decide_eq_true rfl] at SM
  clear hpost hlr hrr hb6 RC HR5
  go_wp2_with fail
  refine SM.out.mono ?_
  rintro e w7 ⟨rfl, n, rfl⟩
  go_wp2_with fail
  go_ret
  exact ⟨rfl, HB6.out.os, HB6.out.tape, HB6.out.output, HB6.out.size, HB6.out.block⟩
end Go.Proofs.Ytdpeckfdilpidaa
