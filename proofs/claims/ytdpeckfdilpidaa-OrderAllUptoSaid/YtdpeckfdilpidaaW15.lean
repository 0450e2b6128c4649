/- OrderBack: the walk. -/
import Derived.Test.YtdpeckfdilpidaaW14
set_option linter.unusedVariables false
set_option linter.unusedSimpArgs false
namespace Go.Proofs.Ytdpeckfdilpidaa
open Go.RowKit
attribute [local go_sem ↓] Go.wp_at_zero Go.wp_at_succ
def ints (n : Nat) (g : Nat → Int) : Array Value := ((List.range n).map fun k => Value.int .i64 (g k)).toArray
theorem ints_get (n : Nat) (g : Nat → Int) {k : Nat} (h : k < n) : (ints n g)[k]? = some (.int .i64 (g k)) := by simp [ints, h]
theorem ints_put (n : Nat) (g : Nat → Int) {k : Nat} (h : k < n) (x : Int) : (ints n g).setIfInBounds k (.int .i64 x) = ints n (fun j => if j = k then x else g j) := by
  apply Array.ext_getElem?
  intro i
  rw [Array.getElem?_setIfInBounds]
  by_cases hi : i < n
  · rw [ints_get n _ hi]
    by_cases he : k = i
    · subst he; simp [ints, h]
    · rw [if_neg he, ints_get n _ hi, if_neg (Ne.symm he)]
  · have h1 : ∀ f : Nat → Int, (ints n f)[i]? = none := fun f => by simp [ints]; omega
    rw [h1, h1, if_neg (by omega)]
theorem made_ints (n : Nat) (hn : n ≤ 1000000) (W' : World) : (Instr.makeSlice 27 (.int .i64 (n : Int)) (.int .i64 (n : Int))).run Try.prog W' = .ok (.slice (some ⟨W'.heap.size, 0, none⟩) n n) (W'.alloc (.cells (ints n fun _ => 0) 3)) := by
  obtain ⟨i0, hI, hz0, hz1, hz2⟩ := info_parts info3
  have := run_makeSlice (P := Try.prog) (w := W') 27 3 i0 (.int .i64 0) Try.underlying27 hI hz0 .i64 .i64 (n : Int) (n : Int) (by omega) (Int.le_refl _) (by rw [hz1]; simp; omega) (by rw [hz2]; simp; omega) (by omega)
  rw [hz1] at this
  have e : madeCells (Value.int .i64 0).cells ((n : Int).toNat * 1) = ints n fun _ => 0 := by
    apply Array.ext_getElem?
    intro i
    by_cases hi : i < n
    · rw [ints_get n _ hi]
      simp [madeCells, Value.cells, hi, Nat.mod_one]
    · have h1 : (ints n fun _ => 0)[i]? = none := by simp [ints]; omega
      rw [h1]
      simp [madeCells, Value.cells]; omega
  rw [e] at this
  simpa using this
/-- Where each block of the row stands, i of them noted. -/
structure BI (w wr : World) (Av : Option Addr) (row : List Nat) (len wb i : Nat) (g : Nat → Int) : Prop where
  blk : Blk wr wb 3 (ints len g)
  at_ : ∀ p, p < i → p < row.length → g (row.getD p 0) = p
  rng : ∀ k, 0 ≤ g k ∧ g k ≤ 1000000
  rl : RL wr (fun b => b ≠ wb) Av (ofNats row)
  below : Below w.heap.size w wr
theorem BI.later {w wr w2 : World} {Av : Option Addr} {row : List Nat} {len wb i : Nat} {g : Nat → Int} (h : BI w wr Av row len wb i g) (hb : Below wr.heap.size wr w2) : BI w w2 Av row len wb i g :=
  ⟨h.blk.below hb h.blk.lt, h.at_, h.rng, h.rl.only (Only.ofBelow (F := fun _ => False) hb) (fun _ _ _ h => h), h.below.trans (hb.mono h.below.size)⟩
theorem nodup_at {row : List Nat} (h : row.Nodup) {p q : Nat} (hp : p < row.length) (hq : q < row.length) (e : row.getD p 0 = row.getD q 0) : p = q := by
  rw [List.getD_eq_getElem?_getD, List.getD_eq_getElem?_getD, List.getElem?_eq_getElem hp, List.getElem?_eq_getElem hq] at e
  have e' : row[p] = row[q] := e
  rcases Nat.lt_trichotomy p q with h1 | h1 | h1
  · exact absurd e' (List.pairwise_iff_getElem.1 h p q hp hq h1)
  · exact h1
  · exact absurd e'.symm (List.pairwise_iff_getElem.1 h q p hq hp h1)
theorem BI.noted {w wr : World} {Av : Option Addr} {row : List Nat} {len wb i : Nat} {g : Nat → Int} (h : BI w wr Av row len wb i g) (hnd : row.Nodup) (hi : i < row.length) (hl : row.getD i 0 < len) (hwb : w.heap.size ≤ wb) (hM : row.length ≤ 1000000) :
    BI w (wr.setCell ⟨wb, row.getD i 0, none⟩ (.int .i64 (i : Int))) Av row len wb (i + 1) (fun k => if k = row.getD i 0 then (i : Int) else g k) := by
  have o : Only (fun b => b = wb) wr (wr.setCell ⟨wb, row.getD i 0, none⟩ (.int .i64 (i : Int))) := (Only.refl (fun b => b = wb) wr).setCell (p := ⟨wb, row.getD i 0, none⟩) (.inl rfl) _
  refine ⟨?_, fun p hp hpl => ?_, fun k => ?_, h.rl.only o (fun b _ hg hf => hg hf), h.below.trans (o.toBelow h.below.size fun k hk hf => by omega)⟩
  · rw [← ints_put len g hl]
    exact h.blk.set_ _ _
  · show (if row.getD p 0 = row.getD i 0 then (i : Int) else g (row.getD p 0)) = p
    by_cases he : p = i
    · subst he; rw [if_pos rfl]
    · rw [if_neg (fun e => he (nodup_at hnd hpl hi e))]
      exact h.at_ p (by omega) hpl
  · show 0 ≤ (if k = row.getD i 0 then (i : Int) else g k) ∧ (if k = row.getD i 0 then (i : Int) else g k) ≤ 1000000
    split
    · omega
    · exact h.rng k
theorem LineIs.back_at {n : Nat} {X : Nat → List Int} {row : List Nat} (h : LineIs n X row) {i t : Nat} (hi : i < row.length) (ht : t < (X (row.getD i 0)).length) :
    (∃ q, i < q ∧ q < row.length ∧ row.getD q 0 = way X (row.getD i 0) t) ∨ To X (way X (row.getD i 0) t) (row.getD i 0) := by
  have h1 : row.getD i 0 = row[i] := by rw [List.getD_eq_getElem?_getD, List.getElem?_eq_getElem hi]; rfl
  have e : row = row.take i ++ row.getD i 0 :: row.drop (i + 1) := by rw [h1, List.getElem_cons_drop hi, List.take_append_drop]
  rcases h.back _ _ _ e t ht with h2 | h2
  · left
    obtain ⟨q, hq, e2⟩ := List.getElem_of_mem h2
    rw [List.length_drop] at hq
    refine ⟨i + 1 + q, by omega, by omega, ?_⟩
    rw [List.getElem_drop] at e2
    rw [List.getD_eq_getElem?_getD, List.getElem?_eq_getElem (by omega)]
    exact e2
  · exact .inr h2
set_option maxRecDepth 100000 in
set_option maxHeartbeats 16000000 in
theorem back_c (w : World) (A : Option Addr) (len cap : Nat) (X : Nat → List Int) (r : RLL w (fun b => b < w.heap.size) A len X) (l1 : len ≤ 1048576) (s1 : ∀ k, k < len → (X k).length ≤ 1048576) :
    Calls Try.prog 5 #[.slice A len cap] w (WaysPost w) := by
  have AC := Lib.hid (alive_c w)
  have R := Lib.hid r
  have H1 := Lib.hid (fun (w' : World) (hb : Below w.heap.size w w') => heavy_c w' _ A len cap X (r.later hb) 3000 (by omega) (fun k hk => by have := s1 k hk; omega) (by omega))
  clear r s1
  by_cases g1 : 3000 < waysOf X len len
  · rw [decide_eq_true g1] at H1
    go_enter Try.func5, Try.ntmps5
    go_wp2_with (first | (go_at_call 9; refine AC.out.mono ?_; rintro e w1 ⟨rfl, hb1⟩; have HB := Lib.hid hb1; clear hb1) | (go_at_call 10; refine (H1.out _ HB.out).mono ?_; rintro e w2 ⟨rfl, rfl⟩))
    go_ret
    exact ⟨rfl, HB.out⟩
  rw [decide_eq_false g1] at H1
  have W1 := Lib.hid (fun k (hk : k < len) => ways_len g1 hk)
  have hlen : len ≤ 3000 := by unfold waysOf at g1; omega
  have LC := Lib.hid (fun (w' : World) (hb : Below w.heap.size w w') => lent_c w' A len cap X (R.out.later hb) (by omega) (fun k hk => by have := (W1.out k hk).2; omega))
  have INT := Lib.hid (fun k (hk : k < len) => show (X k).length ≤ 1000000 ∧ ∀ i, i < (X k).length → i64in ((X k).getD i 0) from ⟨by have := (W1.out k hk).2; omega, R.out.ints hk⟩)
  clear g1
  go_enter Try.func5, Try.ntmps5
  go_wp2_with (first | (go_at_call 9; refine AC.out.mono ?_; rintro e w1 ⟨rfl, hb1⟩; have HB := Lib.hid hb1; clear hb1) | (go_at_call 10; refine (H1.out _ HB.out).mono ?_; rintro e w2 ⟨rfl, rfl⟩))
  refine (right_c _ _ A len cap X (R.out.later HB.out)).mono ?_
  rintro e w4 ⟨b1, rfl, hb1, rfl⟩
  have RB := Lib.hid hb1
  clear hb1
  cases b1 with
  | false =>
    clear RB INT W1 LC H1
    go_wp2_with fail
    go_ret
    exact ⟨rfl, HB.out⟩
  | true =>
    obtain ⟨hX, h0⟩ := RB.out.1 rfl
    have HXR := Lib.hid hX
    clear hX RB H1
    have hmk := made_ints len (by omega)
    go_wp2_with (first
      | (go_at_call 11; refine (LC.out _ HB.out).mono ?_; rintro e w2 ⟨lb, lc, fv, F, FL, V, b4, b5, rfl, hlc, hL, hb2⟩; have HB2 := Lib.hid (HB.out.trans (hb2.mono HB.out.size)); have LN := Lib.hid (line_c w2 _ _ len lc X (hL.reads (by omega) INT.out) (fun _ h => h) (by omega)); clear hL hb2)
      | (go_at_call 12; refine LN.out.mono ?_; rintro e w3 ⟨v, rfl, hb3, hcase⟩; have HB3 := Lib.hid (HB2.out.trans (hb3.mono HB2.out.size)); have HC := Lib.hid hcase; clear hb3 hcase))
    rcases HC.out with ⟨hn, _⟩ | ⟨_, _, s, hre, hop, hrow⟩
    · exact absurd ⟨HXR.out, h0⟩ hn
    have LI := Lib.hid (hre.line h0 HXR.out hop)
    have hsz := (hre.inv h0 HXR.out).size
    obtain ⟨row, hrw⟩ : ∃ row, row = s.done.reverse := ⟨_, rfl⟩
    have hM : row.length = s.done.length := by rw [hrw, List.length_reverse]
    rw [← hrw] at LI hrow
    rw [← hM] at hrow hsz
    have hlt : ∀ b, b ∈ row → b < len := fun b hb => To.lt HXR.out h0 ((LI.out.mem b).1 hb)
    have HLT := Lib.hid hlt
    obtain ⟨Av, cv, rfl, hRL⟩ := row_reads hrow hlt (by omega) (by omega)
    obtain ⟨r0, hr0⟩ := LI.out.first
    have hM0 : 0 < row.length := by rw [hr0]; simp
    have hMl : row.length ≤ len := by omega
    have B0 : Hid (∃ g, BI w (w3.alloc (.cells (ints len fun _ => 0) 3)) Av row len w3.heap.size 0 g) := ⟨_, Blk.new w3 3 _, fun p hp => absurd hp (Nat.not_lt_zero _), fun k => by omega,
      ((hRL.more (G' := fun b => b < w3.heap.size) fun b hb _ => hb).only ((Only.refl (fun _ => False) w3).alloc _) (fun _ _ _ h => h)).more (fun b _ hb => by omega), HB3.out.alloc HB3.out.size _⟩
    have hs3 : w.heap.size ≤ w3.heap.size := HB3.out.size
    clear hRL hrow hlt hre hop hrw hM hr0 HC LN INT LC hmk
    generalize w3.heap.size = wb at *
    obtain ⟨M, hM⟩ : ∃ M, M = row.length := ⟨_, rfl⟩
    have HM := Lib.hid hM
    rw [← hM] at hM0 hMl ⊢
    clear hM
    go_wp2_with fail
    go_loopw [9] (fun iv wr => ∃ i : Nat, i ≤ M ∧ iv = .int .i64 (i : Int) ∧ Hid (∃ g, BI w wr Av row len wb i g)) (fun iv _ => M - (intOf iv).toNat)
    case atStart => exact ⟨0, by omega, rfl, B0⟩
    case round =>
      clear B0
      obtain ⟨i, hi, rfl, HR⟩ := hrel
      obtain ⟨g, hB⟩ := HR.out
      have B := Lib.hid hB
      clear hB HR
      by_cases hlt : i < M
      · have hil : i < row.length := by rw [← HM.out]; exact hlt
        obtain ⟨b, off, rfl, cx⟩ := B.out.rl.rd i hil
        have hy := HLT.out _ (getD_mem hil)
        have cs : wr.cell? ⟨wb, row.getD i 0, none⟩ = some (.int .i64 (g (row.getD i 0))) := by rw [B.out.blk.cell, ints_get len g hy]
        have fs : wr.frozen? ⟨wb, row.getD i 0, none⟩ = false := B.out.blk.frozen _
        have N := Lib.hid (B.out.noted LI.out.nd hil hy hs3 (by omega))
        clear B hil
        generalize row.getD i 0 = y at *
        go_wp2_with fail
        go_roundw
        case rel => exact ⟨i + 1, by omega, by go_num, _, N.out⟩
        case measure => first | (simp [intOf]; done) | (simp [intOf]; omega)
      · obtain rfl : i = M := by omega
        clear hlt
        go_wp2_with fail
        go_loopw [10] (fun iv wr => ∃ k : Nat, k ≤ i ∧ iv = .int .i64 (k : Int) ∧ Hid (BI w wr Av row len wb i g)) (fun iv _ => i - (intOf iv).toNat)
        case atStart => exact ⟨0, by omega, rfl, B⟩
        case round =>
          clear B
          obtain ⟨k, hk, rfl, B⟩ := hrel
          by_cases hkl : k < i
          · have hkr : k < row.length := by rw [← HM.out]; exact hkl
            obtain ⟨x, hx⟩ : ∃ x, x = row.getD k 0 := ⟨_, rfl⟩
            have hxl : x < len := by rw [hx]; exact HLT.out _ (getD_mem hkr)
            obtain ⟨L, hL⟩ : ∃ L, L = (X x).length := ⟨_, rfl⟩
            have HL := Lib.hid hL
            have HXX := Lib.hid hx
            clear hL hx
            go_wp2_with fail
            go_loopw [11] (fun jv wr => ∃ j : Nat, j ≤ L ∧ jv = .int .i64 (j : Int) ∧ Hid (BI w wr Av row len wb i g)) (fun jv _ => L - (intOf jv).toNat)
            case atStart => exact ⟨0, Nat.zero_le _, rfl, B⟩
            case round =>
              clear B
              obtain ⟨j, hjL, rfl, B⟩ := hrel
              obtain ⟨bv, ov, rfl, cx⟩ := B.out.rl.rd k hkr
              rw [← HXX.out] at cx
              obtain ⟨b, off, Ak, ck, rfl, hGb, hbl, ck0, hRL⟩ := (R.out.later B.out.below).at_ x hxl
              have hLb : L ≤ 9223372036854775807 := by rw [HL.out]; exact hRL.1
              have RR := Lib.hid hRL.2
              rw [← HL.out] at ck0
              clear hRL
              by_cases hj : j < L
              · have hj2 : j < (X x).length := by rw [← HL.out]; exact hj
                obtain ⟨_, b2, off2, rfl, hG2, hb2l, cy⟩ := RR.out j hj2
                have hyl := way_lt HXR.out hxl hj2
                have hyw : (X x).getD j 0 = ((way X x j : Nat) : Int) := by
                  have := HXR.out x hxl j hj2
                  unfold way; omega
                rw [hyw] at cy
                have hcase := LI.out.back_at hkr (t := j) (by rw [← HXX.out]; exact hj2)
                rw [← HXX.out] at hcase
                obtain ⟨y, hy⟩ : ∃ y, y = way X x j := ⟨_, rfl⟩
                rw [← hy] at hyl cy hcase
                have cw : wr.cell? ⟨wb, y, none⟩ = some (.int .i64 (g y)) := by rw [B.out.blk.cell, ints_get len g hyl]
                have hrng := B.out.rng y
                have HG : Hid (k < g y ∨ To X y x) := by
                  rcases hcase with ⟨q, h1, h2, h3⟩ | h1
                  · left
                    have := B.out.at_ q (by rw [HM.out]; exact h2) h2
                    rw [h3] at this
                    omega
                  · exact .inr h1
                have RC := Lib.hid (reached_c wr _ (some ⟨b, off, none⟩) len cap X (R.out.later B.out.below) (fun _ h => h) HXR.out y hyl (by omega))
                clear hyw hy hj2 RR hcase
                by_cases hle : g y ≤ k
                · have hto : To X y x := by
                    rcases HG.out with h | h
                    · omega
                    · exact h
                  generalize g y = gy at *
                  go_wp2_with fail
                  refine RC.out.mono ?_
                  rintro e w5 ⟨sb, f, rfl, hblk, hf, hb5, _⟩
                  have cf : w5.cell? ⟨sb, x, none⟩ = some (.bool true) := by rw [hblk.cell, bools_get len f hxl, (hf x).2 hto]
                  have cx5 := (Only.cell (Only.ofBelow (F := fun _ => False) hb5) (World.block_lt_of_cell? wr _ cx) (fun h => h)).trans cx
                  have N := Lib.hid (B.out.later hb5)
                  clear hblk hf hb5 hto HG RC B
                  go_wp2_with fail
                  go_roundw
                  case rel => exact ⟨j + 1, by omega, by go_num, N⟩
                  case measure => first | (simp [intOf]; done) | (simp [intOf]; omega)
                · clear HG RC
                  have hle' : (k : Int) < g y := by omega
                  generalize g y = gy at *
                  go_wp2_with fail
                  go_roundw
                  case rel => exact ⟨j + 1, by omega, by go_num, B⟩
                  case measure => first | (simp [intOf]; done) | (simp [intOf]; omega)
              · clear RR
                go_wp2_with fail
                go_roundw
                case rel => exact ⟨k + 1, by omega, by go_num, B⟩
                case measure => first | (simp [intOf]; done) | (simp [intOf]; omega)
          · go_wp2_with fail
            go_ret
            exact ⟨congrArg (fun b => Ending.returned (Value.bool b)) (by first | rfl | (simp; omega)), B.out.below⟩
end Go.Proofs.Ytdpeckfdilpidaa
