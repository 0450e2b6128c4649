/- OrderOnce: the walk. -/
import Derived.Test.YtdpeckfdilpidaaW12
import Derived.Test.YtdpeckfdilpidaaW13
set_option linter.unusedVariables false
set_option linter.unusedSimpArgs false
namespace Go.Proofs.Ytdpeckfdilpidaa
open Go.RowKit
attribute [local go_sem ↓] Go.wp_at_zero Go.wp_at_succ
theorem bools_put (len : Nat) (f : Nat → Bool) {k : Nat} (h : k < len) (b : Bool) : (bools len f).setIfInBounds k (.bool b) = bools len (fun j => if j = k then b else f j) := by
  apply Array.ext_getElem?
  intro i
  rw [Array.getElem?_setIfInBounds]
  by_cases hi : i < len
  · rw [bools_get len _ hi]
    by_cases he : k = i
    · subst he; simp [bools, h]
    · rw [if_neg he, bools_get len _ hi, if_neg (Ne.symm he)]
  · have h1 : ∀ g : Nat → Bool, (bools len g)[i]? = none := fun g => by simp [bools]; omega
    rw [h1, h1, if_neg (by omega)]
/-- A row of blocks that can be read. -/
def RD (w : World) (A : Option Addr) (l : List Nat) : Prop := ∀ i, i < l.length → ∃ b off, A = some ⟨b, off, none⟩ ∧ w.cell? ⟨b, off + i, none⟩ = some (.int .i64 ((l.getD i 0 : Nat) : Int))
theorem row_reads {w : World} {F : Nat → Prop} {v : Value} {l : List Nat} {n : Nat} (h : Row w F 3 1 v l.length (nums (ofNats l))) (hl : ∀ b, b ∈ l → b < n) (hn : n ≤ 1000000) (hs : l.length ≤ 1000000) : ∃ A cap, v = .slice A l.length cap ∧ RL w F A (ofNats l) := by
  have hrd : ∀ i, i < (ofNats l).length → i64in ((ofNats l).getD i 0) := fun i hi => by
    rw [ofNats_length] at hi
    rw [ofNats_get _ hi]
    have h2 := hl _ (getD_mem hi)
    constructor <;> omega
  have h' : Row w F 3 1 v (ofNats l).length (nums (ofNats l)) := by rw [ofNats_length]; exact h
  obtain ⟨A, cap, hv, hr⟩ := h'.reads hrd (by rw [ofNats_length]; omega)
  exact ⟨A, cap, by rw [hv, ofNats_length], hr⟩
theorem RL.rd {w : World} {G : Nat → Prop} {A : Option Addr} {l : List Nat} (h : RL w G A (ofNats l)) : RD w A l := fun i hi => by
  obtain ⟨_, b, off, h1, _, _, h2⟩ := h.2 i (by rw [ofNats_length]; exact hi)
  rw [ofNats_get _ hi] at h2
  exact ⟨b, off, h1, h2⟩
/-- The marks on the blocks, i of the row taken off. -/
structure OI (w wr : World) (X : Nat → List Int) (Av : Option Addr) (row : List Nat) (len sb i : Nat) (f : Nat → Bool) (G : Nat → Prop) : Prop where
  blk : Blk wr sb 4 (bools len f)
  f : ∀ k, f k = true ↔ To X 0 k ∧ k ∉ row.take i
  rl : RL wr G Av (ofNats row)
  below : Below w.heap.size w wr
theorem OI.off {w wr : World} {X : Nat → List Int} {Av : Option Addr} {row : List Nat} {len sb i : Nat} {f : Nat → Bool} {G : Nat → Prop} (h : OI w wr X Av row len sb i f G) (hi : i < row.length) (hl : row.getD i 0 < len) (hsb : w.heap.size ≤ sb) (hG : ∀ k, G k → k ≠ sb) :
    OI w (wr.setCell ⟨sb, row.getD i 0, none⟩ (.bool false)) X Av row len sb (i + 1) (fun k => if k = row.getD i 0 then false else f k) G := by
  have o : Only (fun b => b = sb) wr (wr.setCell ⟨sb, row.getD i 0, none⟩ (.bool false)) := (Only.refl (fun b => b = sb) wr).setCell (p := ⟨sb, row.getD i 0, none⟩) (.inl rfl) _
  have hB := h.below.size
  refine ⟨?_, fun k => ?_, h.rl.only o (fun b _ hg hf => hG b hg hf), h.below.trans (o.toBelow hB fun k hk hf => by omega)⟩
  · rw [← bools_put len f hl false]
    exact h.blk.set_ _ _
  · have e : row.take (i + 1) = row.take i ++ [row.getD i 0] := by
      rw [List.take_add_one, List.getElem?_eq_getElem hi, List.getD_eq_getElem?_getD, List.getElem?_eq_getElem hi]; rfl
    rw [e, List.mem_append, List.mem_singleton]
    show (if k = row.getD i 0 then false else f k) = true ↔ _
    by_cases hk : k = row.getD i 0
    · rw [if_pos hk]; simp [hk]
    · rw [if_neg hk, h.f k]; simp only [not_or]; exact ⟨fun h => ⟨h.1, h.2, hk⟩, fun h => ⟨h.1, h.2.1⟩⟩
theorem nodup_take {row : List Nat} (h : row.Nodup) {i : Nat} (hi : i < row.length) : row.getD i 0 ∉ row.take i := by
  have e : row = row.take i ++ row.getD i 0 :: row.drop (i + 1) := by
    have h1 : row.getD i 0 = row[i] := by rw [List.getD_eq_getElem?_getD, List.getElem?_eq_getElem hi]; rfl
    rw [h1, List.getElem_cons_drop hi, List.take_append_drop]
  intro hm
  rw [e] at h
  have := (List.nodup_append.1 h).2.2 _ hm _ (List.mem_cons_self ..)
  exact this rfl
theorem RLL.ints {w : World} {G : Nat → Prop} {A : Option Addr} {len : Nat} {X : Nat → List Int} (h : RLL w G A len X) {k : Nat} (hk : k < len) : ∀ i, i < (X k).length → i64in ((X k).getD i 0) := by
  obtain ⟨_, _, _, _, _, _, _, _, hr⟩ := h.at_ k hk
  exact fun i hi => (hr.2 i hi).1
set_option maxRecDepth 100000 in
set_option maxHeartbeats 16000000 in
theorem once_c (w : World) (A : Option Addr) (len cap : Nat) (X : Nat → List Int) (r : RLL w (fun b => b < w.heap.size) A len X) (l1 : len ≤ 1048576) (s1 : ∀ k, k < len → (X k).length ≤ 1048576) :
    Calls Try.prog 4 #[.slice A len cap] w (WaysPost w) := by
  have AC := Lib.hid (alive_c w)
  have R := Lib.hid r
  have H1 := Lib.hid (fun (w' : World) (hb : Below w.heap.size w w') => heavy_c w' _ A len cap X (r.later hb) 200000 (by omega) (fun k hk => by have := s1 k hk; omega) (by omega))
  clear r s1
  by_cases g1 : 200000 < waysOf X len len
  · rw [decide_eq_true g1] at H1
    go_enter Try.func4, Try.ntmps4
    go_wp2_with (first | (go_at_call 9; refine AC.out.mono ?_; rintro e w1 ⟨rfl, hb1⟩; have HB := Lib.hid hb1; clear hb1) | (go_at_call 10; refine (H1.out _ HB.out).mono ?_; rintro e w2 ⟨rfl, rfl⟩))
    go_ret
    exact ⟨rfl, HB.out⟩
  rw [decide_eq_false g1] at H1
  have W1 := Lib.hid (fun k (hk : k < len) => ways_len g1 hk)
  have hlen : len ≤ 200000 := by unfold waysOf at g1; omega
  have LC := Lib.hid (fun (w' : World) (hb : Below w.heap.size w w') => lent_c w' A len cap X (R.out.later hb) (by omega) (fun k hk => by have := (W1.out k hk).2; omega))
  have INT := Lib.hid (fun k (hk : k < len) => show (X k).length ≤ 1000000 ∧ ∀ i, i < (X k).length → i64in ((X k).getD i 0) from ⟨by have := (W1.out k hk).2; omega, R.out.ints hk⟩)
  clear g1
  go_enter Try.func4, Try.ntmps4
  go_wp2_with (first
    | (go_at_call 9; refine AC.out.mono ?_; rintro e w1 ⟨rfl, hb1⟩; have HB := Lib.hid hb1; clear hb1)
    | (go_at_call 10; refine (H1.out _ HB.out).mono ?_; rintro e w2 ⟨rfl, rfl⟩)
    | (go_at_call 11; refine (LC.out _ HB.out).mono ?_; rintro e w2 ⟨lb, lc, fv, F, FL, V, b4, b5, rfl, hlc, hL, hb2⟩; have HB2 := Lib.hid (HB.out.trans (hb2.mono HB.out.size)); have LN := Lib.hid (line_c w2 _ _ len lc X (hL.reads (by omega) INT.out) (fun _ h => h) (by omega)); clear hL hb2)
    | (go_at_call 12; refine LN.out.mono ?_; rintro e w3 ⟨v, rfl, hb3, hcase⟩; have HB3 := Lib.hid (HB2.out.trans (hb3.mono HB2.out.size)); have HC := Lib.hid hcase; clear hb3 hcase))
  refine (right_c w3 _ A len cap X (R.out.later HB3.out)).mono ?_
  rintro e w4 ⟨b1, rfl, hb1, hw4⟩
  subst w4
  have RB := Lib.hid hb1
  clear hb1
  have hsome : ∀ {l : List Int}, l.length = 0 → ((0 : Int) == 0) = true := fun _ => rfl
  cases b1 with
  | false =>
    have hv : v = .slice none 0 0 := by
      rcases HC.out with ⟨_, hv⟩ | ⟨h1, h2, _⟩
      · exact hv
      · have := RB.out.2 ⟨h1, h2⟩; cases this
    subst hv
    clear RB HC LN INT W1 LC H1
    go_wp2_with fail
    go_ret
    exact ⟨rfl, HB3.out⟩
  | true =>
    obtain ⟨hX, h0⟩ := RB.out.1 rfl
    rcases HC.out with ⟨hn, _⟩ | ⟨_, _, s, hre, hop, hrow⟩
    · exact absurd ⟨hX, h0⟩ hn
    have LI := Lib.hid (hre.line h0 hX hop)
    have HXR := Lib.hid hX
    have hsz := (hre.inv h0 hX).size
    obtain ⟨row, hrw⟩ : ∃ row, row = s.done.reverse := ⟨_, rfl⟩
    have hM : row.length = s.done.length := by rw [hrw, List.length_reverse]
    rw [← hrw] at LI hrow
    rw [← hM] at hrow hsz
    have hlt : ∀ b, b ∈ row → b < len := fun b hb => To.lt hX h0 ((LI.out.mem b).1 hb)
    have HLT := Lib.hid hlt
    have RC := Lib.hid (reached_c w3 _ A len cap X (R.out.later HB3.out) (fun _ h => h) hX 0 h0 (by omega))
    obtain ⟨Av, cv, rfl, hRL⟩ := row_reads hrow hlt (by omega) (by omega)
    have RLv := Lib.hid (hRL.more (G' := fun b => b < w3.heap.size) fun b hb _ => hb)
    obtain ⟨r0, hr0⟩ := LI.out.first
    have hM0 : 0 < row.length := by rw [hr0]; simp
    have z0 : row.getD 0 0 = 0 := by rw [hr0]; rfl
    have Z0 := Lib.hid z0
    have hMl : row.length ≤ len := by omega
    have HRW := Lib.hid hrow
    clear hRL hrow hlt hX hre hop hrw hM hr0 RB HC LN INT W1 LC H1 z0
    go_wp2_with fail
    refine RC.out.mono ?_
    rintro e w4 ⟨sb, f, rfl, hblk, hf, hb4, hsb⟩
    have HB4 := Lib.hid (HB3.out.trans (hb4.mono HB3.out.size))
    have hs3 : w.heap.size ≤ w3.heap.size := HB3.out.size
    have O0 : Hid (∃ f, OI w w4 X Av row len sb 0 f (fun b => b < w3.heap.size)) := ⟨f, hblk, fun k => by rw [hf k]; simp, RLv.out.only (Only.ofBelow (F := fun _ => False) hb4) (fun _ _ _ h => h), HB4.out⟩
    have HSB := Lib.hid hsb
    clear hblk hf hb4 RC HRW RLv HB4
    obtain ⟨M, hM⟩ : ∃ M, M = row.length := ⟨_, rfl⟩
    have HM := Lib.hid hM
    rw [← hM] at hM0 hMl ⊢
    clear hM
    go_wp2_with fail
    go_loopw [9] (fun iv wr => ∃ i : Nat, i ≤ M ∧ iv = .int .i64 (i : Int) ∧ Hid (∃ f, OI w wr X Av row len sb i f (fun b => b < w3.heap.size))) (fun iv _ => M - (intOf iv).toNat)
    case atStart => exact ⟨0, by omega, rfl, O0⟩
    case round =>
      clear O0
      obtain ⟨i, hi, rfl, HR⟩ := hrel
      obtain ⟨f, hO⟩ := HR.out
      have O := Lib.hid hO
      clear hO HR
      by_cases hlt : i < M
      · have hil : i < row.length := by rw [← HM.out]; exact hlt
        obtain ⟨b, off, rfl, cx⟩ := O.out.rl.rd i hil
        have hy := HLT.out _ (getD_mem hil)
        have hfy : f (row.getD i 0) = true := (O.out.f _).2 ⟨(LI.out.mem _).1 (getD_mem hil), nodup_take LI.out.nd hil⟩
        have cs : wr.cell? ⟨sb, row.getD i 0, none⟩ = some (.bool true) := by rw [O.out.blk.cell, bools_get len f hy, hfy]
        have fs : wr.frozen? ⟨sb, row.getD i 0, none⟩ = false := O.out.blk.frozen _
        have N := Lib.hid (O.out.off hil hy (by have := HSB.out; omega) (fun k hk => by have := HSB.out; show k ≠ sb; omega))
        clear O hfy hil
        generalize row.getD i 0 = y at *
        go_wp2_with fail
        go_roundw
        case rel => exact ⟨i + 1, by omega, by go_num, _, N.out⟩
        case measure => first | (simp [intOf]; done) | (simp [intOf]; omega)
      · obtain rfl : i = M := by omega
        have CF : Hid (∀ k, k < len → wr.cell? ⟨sb, k, none⟩ = some (.bool false)) := fun k hk => by
          have hfk : f k = false := by
            cases h : f k with
            | false => rfl
            | true =>
              obtain ⟨h1, h2⟩ := (O.out.f k).1 h
              rw [HM.out, List.take_length] at h2
              exact absurd ((LI.out.mem k).2 h1) h2
          rw [O.out.blk.cell, bools_get len f hk, hfk]
        obtain ⟨b0, off0, rfl, c0⟩ := O.out.rl.rd 0 (by rw [← HM.out]; exact hM0)
        rw [Z0.out, Nat.add_zero] at c0
        have c0' : wr.cell? ⟨b0, off0, none⟩ = some (.int .i64 0) := c0
        clear c0
        have E := Lib.hid O.out.below
        clear O
        go_wp2_with fail
        go_loop [10] (fun iv => ∃ k : Nat, k ≤ len ∧ iv = .int .i64 (k : Int)) (fun iv => len - (intOf iv).toNat)
        case atStart => exact ⟨0, by omega, rfl⟩
        case round =>
          obtain ⟨k, hk, rfl⟩ := hrel
          by_cases hkl : k < len
          · have ck := CF.out k hkl
            clear CF
            go_wp2_with fail
            go_round
            case rel => exact ⟨k + 1, by omega, by go_num⟩
            case measure => first | (simp [intOf]; done) | (simp [intOf]; omega)
          · clear CF
            go_wp2_with fail
            go_ret
            exact ⟨congrArg (fun b => Ending.returned (Value.bool b)) (by first | rfl | (simp; omega)), E.out⟩
end Go.Proofs.Ytdpeckfdilpidaa
