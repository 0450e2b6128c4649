/- R16Errors: the walk. -/
import Derived.Test.YtkjfbojmkkdgoaaL15
import Derived.Test.YtkjfbojmkkdgoaaL7
import Derived.Deep.DrawnRows
import Derived.Deep.DeepCutAuto
set_option linter.unusedVariables false
set_option linter.unusedSimpArgs false
namespace Go.Proofs.Ytkjfbojmkkdgoaa
open Go.RowKit
attribute [local go_sem ↓] Go.wp_at_zero Go.wp_at_succ
theorem made_zeros (n : Nat) (hn : n < 2000000) : ∃ Z : Array Value, Z.toList = nums (zeros n) ∧ ∀ W' : World, (Instr.makeSlice 36 (.int .i64 (n : Int)) (.int .i64 (n : Int))).run Try.prog W' = .ok (.slice (some ⟨W'.heap.size, 0, none⟩) n n) (W'.alloc (.cells Z 3)) := by
  obtain ⟨i0, hI, hz0, hz1, hz2⟩ := info_parts int_info
  refine ⟨madeCells (Value.int .i64 0).cells (n * 1), ?_, fun W' => ?_⟩
  · have e : nums (zeros n) = List.replicate n (.int .i64 0) := by simp [nums, zeros, List.map_replicate]
    rw [e, List.eq_replicate_iff]
    refine ⟨by simp [madeCells], fun b hb => ?_⟩
    simp [madeCells, Value.cells] at hb
    obtain ⟨j, _, rfl⟩ := hb
    rw [Nat.mod_one]
    rfl
  · have := run_makeSlice (P := Try.prog) (w := W') 36 3 i0 (.int .i64 0) Try.underlying36 hI hz0 .i64 .i64 (n : Int) (n : Int) (by omega) (Int.le_refl _) (by rw [hz1]; simp; omega) (by rw [hz2]; simp; omega) (by omega)
    rw [hz1] at this
    simpa using this
structure ES (w wx : World) (m : Int) (b f c0 : Nat) (sl hl : Int) : Prop where
  lim : Blk wx w.heap.size 38 #[.int .i64 sl, .int .i64 hl]
  code : Blk wx c0 25 #[.slice (some ⟨b, 0, none⟩) 8 8, .slice (some ⟨f, 0, none⟩) 1 1, .int .i64 m]
  il : IL wx (fun x => x < c0) (some ⟨b, 0, none⟩) 8 (insOf sampleL)
  fl : FL wx (fun x => x < c0) (some ⟨f, 0, none⟩) 1 (mainF 3 8)
  below : Below w.heap.size w wx
  lt : w.heap.size < c0
theorem ES.ca {w wx : World} {m : Int} {b f c0 : Nat} {sl hl : Int} (h : ES w wx m b f c0 sl hl) (hm : i64in m) (n : Nat) (hn : n < 2000000) (Z : Array Value) (hZ : Z.toList = nums (zeros n)) :
    CA (wx.alloc (.cells Z 3)) (fun x => x < (wx.alloc (.cells Z 3)).heap.size) (some ⟨b, 0, none⟩) 8 8 (insOf sampleL) (some ⟨f, 0, none⟩) 1 1 (mainF 3 8) m (some ⟨wx.heap.size, 0, none⟩) (zeros n) n := by
  have o : Only (fun _ => False) wx (wx.alloc (.cells Z 3)) := (Only.refl _ wx).alloc _
  have hs : (wx.alloc (.cells Z 3)).heap.size = wx.heap.size + 1 := by simp
  have BZ : Blk (wx.alloc (.cells Z 3)) wx.heap.size 3 Z := blk_at rfl
  refine ⟨h.il.tr o fun x hx _ => ⟨fun h => h, by show x < _; omega⟩, by decide, h.fl.tr o fun x hx _ => ⟨fun h => h, by show x < _; omega⟩, hm, by decide, ⟨by rw [zeros_length]; omega, fun i hi => ?_⟩, (fun h => by cases h), (fun h => by cases h), (fun h => by cases h), zeros_in n, by decide⟩
  have e := BZ.cell (0 + i)
  refine ⟨_, _, rfl, BZ.lt, BZ.lt, e.trans ?_⟩
  rw [Nat.zero_add, ← Array.getElem?_toList, hZ]
  simp [nums, hi]
theorem ES.tr {w wx wy : World} {m : Int} {b f c0 : Nat} {sl hl : Int} (h : ES w wx m b f c0 sl hl) (o : Only (fun x => wx.heap.size ≤ x) wx wy) : ES w wy m b f c0 sl hl := by
  have l1 := h.lim.lt
  have l2 := h.code.lt
  exact ⟨h.lim.only o (by omega), h.code.only o (by omega), h.il.tr o fun x hx h => ⟨by show ¬ wx.heap.size ≤ x; omega, h⟩, h.fl.tr o fun x hx h => ⟨by show ¬ wx.heap.size ≤ x; omega, h⟩,
    h.below.trans (o.toBelow (by omega) fun x _ h2 => by have h3 : wx.heap.size ≤ x := h2; omega), h.lt⟩
theorem ES.far {w wx wy : World} {m : Int} {b f c0 : Nat} {sl hl : Int} (h : ES w wx m b f c0 sl hl) (n : Nat) (hn : c0 < n) (o : Only (fun x => n ≤ x) wx wy) : ES w wy m b f c0 sl hl := by
  have l3 := h.lt
  have l2 := h.code.lt
  exact ⟨h.lim.only o (by omega), h.code.only o (by omega), h.il.tr o fun x hx h => ⟨by have h2 : x < c0 := h; show ¬ n ≤ x; omega, h⟩, h.fl.tr o fun x hx h => ⟨by have h2 : x < c0 := h; show ¬ n ≤ x; omega, h⟩,
    h.below.trans (o.toBelow (by omega) fun x h1 h2 => by have h3 : n ≤ x := h2; omega), h.lt⟩
theorem ES.main {w wx : World} {m : Int} {b f c0 : Nat} {sl hl : Int} (h : ES w wx m b f c0 sl hl) (m' : Int) : ES w (wx.setCell ⟨c0, 2, none⟩ (.int .i64 m')) m' b f c0 sl hl := by
  have l1 := h.lim.lt
  have l2 := h.code.lt
  have l3 := h.lt
  have o : Only (fun x => x = c0) wx (wx.setCell ⟨c0, 2, none⟩ (.int .i64 m')) := (Only.refl (fun x => x = c0) wx).setCell (.inl rfl) _
  have bc := h.code.set_ 2 (.int .i64 m')
  exact ⟨h.lim.only o (by omega), bc, h.il.tr o fun x hx h => ⟨by show ¬ x = c0; have h2 : x < c0 := h; omega, h⟩, h.fl.tr o fun x hx h => ⟨by show ¬ x = c0; have h2 : x < c0 := h; omega, h⟩,
    h.below.trans (o.toBelow (by omega) fun x h1 h2 => by have h3 : x = c0 := h2; omega), h.lt⟩
/-- How many zeros. -/
def errN (size : Int) : Int := if (bits .and .i64 size 7 == 0) = true then 1048576 + bits .and .i64 (size / 8) 1 else bits .and .i64 size 7
def errMain (spoilt : Int) : Int := if (bits .and .i64 spoilt 3 == 1) = true then -1 else 0
def errWant (spoilt n sl hl : Int) : Int := if (bits .and .i64 spoilt 3 == 1) = true then 210 else if 1048576 < n then 4 else if errBad sl hl then 5 else 0
theorem err_new (spoilt sl hl x5 x4 x2 : Int) (n : Nat) (b f : Nat) (NA : Option Addr) (h5 : x5 = if errBad sl hl then 5 else 0) (h4 : x4 = if 1048576 < (n : Int) then 4 else x5) (h2 : x2 = if (bits .and .i64 spoilt 3 == 1) = true then 210 else x4) :
    (x2 = 0 ∧ errMain spoilt = 0 ∧ ¬ 1048576 < (n : Int) ∧ ¬ errBad sl hl) ∨ ((x2 = 210 ∨ x2 = 4 ∨ x2 = 5) ∧ ∀ (W : World) (G : Nat → Prop), CA W G (some ⟨b, 0, none⟩) 8 8 (insOf sampleL) (some ⟨f, 0, none⟩) 1 1 (mainF 3 8) (errMain spoilt) NA (zeros n) n →
      Calls Try.prog 19 #[codeV (some ⟨b, 0, none⟩) 8 8 (some ⟨f, 0, none⟩) 1 1 (errMain spoilt), .slice NA n n, .agg #[.int .i64 sl, .int .i64 hl]] W fun e w' => e = .returned (.tuple #[.pointer none, .int .i64 x2]) ∧ Below W.heap.size W w') := by
  have hz := zeros_length n
  by_cases hs : (bits .and .i64 spoilt 3 == 1) = true
  · rw [if_pos hs] at h2
    subst h2
    refine .inr ⟨by omega, fun W G h => ?_⟩
    have e : errMain spoilt = -1 := if_pos hs
    have := new_form W _ (fun _ h => h) (some ⟨b, 0, none⟩) 8 8 (insOf sampleL) (some ⟨f, 0, none⟩) 1 1 (mainF 3 8) (errMain spoilt) h.low.il h.ci_ h.low.fl h.m_ h.nf_ NA (zeros n) n h.low.nl sl hl (by rw [e]; exact sample_no (-1) (by decide))
    rwa [hz] at this
  have e : errMain spoilt = 0 := if_neg hs
  have hok : CodeOk 8 (insOf sampleL) 1 (mainF 3 8) (errMain spoilt) := by rw [e]; exact sample_ok
  rw [if_neg hs] at h2
  by_cases hn : 1048576 < (n : Int)
  · rw [if_pos hn] at h4
    subst h4 h2
    refine .inr ⟨by omega, fun W G h => ?_⟩
    have := new_input W _ (fun _ h => h) (some ⟨b, 0, none⟩) 8 8 (insOf sampleL) (some ⟨f, 0, none⟩) 1 1 (mainF 3 8) (errMain spoilt) h.low.il h.ci_ h.low.fl h.m_ h.nf_ NA (zeros n) n h.low.nl sl hl hok (by rw [hz]; exact hn)
    rwa [hz] at this
  rw [if_neg hn] at h4
  by_cases hb : errBad sl hl
  · rw [if_pos hb] at h5
    subst h5 h4 h2
    refine .inr ⟨by omega, fun W G h => ?_⟩
    have := new_lim h hok (by rw [hz]; exact hn) hb
    rwa [hz] at this
  · rw [if_neg hb] at h5
    exact .inl ⟨by omega, e, hn, hb⟩
set_option maxRecDepth 100000 in
set_option maxHeartbeats 8000000 in
theorem errors_0 (w : World) (spoilt size sl hl : Int) (h1 : i64in spoilt) (h2 : i64in size) (h3 : i64in sl) (h4 : i64in hl) : Calls Try.prog 9 #[.int .i64 spoilt, .int .i64 size, .agg #[.int .i64 sl, .int .i64 hl]] w fun e w' => e = .returned (.bool true) ∧ Below w.heap.size w w' := by
  obtain ⟨o0, o1⟩ := h1
  obtain ⟨o2, o3⟩ := h2
  go_enter Try.func9, Try.ntmps9
  go_wp2_with fail
  refine (alive_c _).mono ?_
  rintro e w1 ⟨rfl, hb1⟩
  have hb1 := Lib.hid hb1
  go_wp2_with fail
  refine (sample_c _).mono ?_
  rintro e w2 ⟨b, f, rfl, hI, hF, hb2⟩
  have h20 := (hb1.out.trans (hb2.mono (by have := hb1.out.size; exact this)))
  have S3 : Hid (ES w (w2.alloc (.cells #[.slice (some ⟨b, 0, none⟩) 8 8, .slice (some ⟨f, 0, none⟩) 1 1, .int .i64 0] 25)) 0 b f w2.heap.size sl hl) := by
    have o3 : Only (fun _ => False) w2 (w2.alloc (.cells #[.slice (some ⟨b, 0, none⟩) 8 8, .slice (some ⟨f, 0, none⟩) 1 1, .int .i64 0] 25)) := (Only.refl _ w2).alloc _
    have hs := hb1.out.size
    have hs2 := hb2.size
    have s0 : (w.alloc (.cells #[.int .i64 sl, .int .i64 hl] 38)).heap.size = w.heap.size + 1 := by simp
    have B0 : Blk (w.alloc (.cells #[.int .i64 sl, .int .i64 hl] 38)) w.heap.size 38 #[.int .i64 sl, .int .i64 hl] := blk_at rfl
    refine ⟨((B0.below hb1.out (by omega)).below hb2 (by omega)).only o3 (fun h => h), blk_at rfl, hI.tr o3 fun x _ h => ⟨fun h => h, h.2⟩, hF.tr o3 fun x _ h => ⟨fun h => h, h.2⟩, ?_, by omega⟩
    have o1 := ((Only.refl (fun _ => False) w).alloc (.cells #[.int .i64 sl, .int .i64 hl] 38)).trans (Only.ofBelow (F := fun _ => False) hb1.out) fun _ _ h => h
    exact ((o1.trans (Only.ofBelow (F := fun _ => False) hb2) fun _ _ h => h).trans o3 fun _ _ h => h).toBelow (Nat.le_refl _) fun _ _ h => h
  clear hI hF hb2 h20 hb1
  go_upto_region 3 with fail
  generalize World.alloc w2 _ = w3 at *
  generalize w2.heap.size = c0 at *
  go_upto_if 22 with fail
  go_cut [] from 20 (fun wx => Hid (ES w wx (errMain spoilt) b f c0 sl hl))
  case first =>
    have c2 := S3.out.code.cell 2
    have fz := S3.out.code.frozen
    cases hs : (bits .and .i64 spoilt 3 == 1) with
    | true =>
      go_wp2_with fail
      go_meet
      case rel => unfold errMain; rw [if_pos hs]; exact S3.out.main (-1)
    | false =>
      go_wp2_with fail
      go_meet
      case rel => unfold errMain; rw [if_neg (by rw [hs]; decide)]; exact S3
  case rest =>
  have S4 := hcut
  clear S3 hcut
  go_upto_if 27 with fail
  obtain ⟨u0, u1⟩ := and_range size 7 (by decide)
  obtain ⟨u2, u3⟩ := and_range (size / 8) 1 (by decide)
  rw [show ((7 : Nat) : Int) = 7 from rfl] at u0 u1
  rw [show ((1 : Nat) : Int) = 1 from rfl] at u2 u3
  go_cut [9] from 26 (fun nv wx => nv = .int .i64 (errN size) ∧ wx = wc)
  case first =>
    clear S4
    cases hz : (bits .and .i64 size 7 == 0) with
    | true =>
      go_wp2_with fail
      go_meet
      case rel =>
        refine ⟨?_, rfl⟩
        unfold errN
        rw [if_pos hz]
    | false =>
      go_wp2_with fail
      go_meet
      case rel => exact ⟨by unfold errN; rw [if_neg (by rw [hz]; decide)], rfl⟩
  case rest =>
  obtain ⟨rfl, rfl⟩ := hcut
  obtain ⟨n, hn, n0, n1⟩ : ∃ n : Nat, errN size = n ∧ 1 ≤ n ∧ n < 2000000 := by
    refine ⟨(errN size).toNat, ?_⟩
    have : 1 ≤ errN size ∧ errN size < 2000000 := by
      unfold errN
      split
      · omega
      · rename_i hz
        have : ¬ bits .and .i64 size 7 = 0 := fun e => hz (by rw [e]; rfl)
        omega
    omega
  rw [hn]
  clear u0 u1 u2 u3
  go_upto_region 9 with fail
  have l0 := S4.out.lim.cell 0
  have l1 := S4.out.lim.cell 1
  simp only [List.getElem?_toArray, List.getElem?_cons_zero, List.getElem?_cons_succ] at l0 l1
  have S4 := Lib.hid S4.out
  go_cut [49] from 32 (fun bv wx => bv = .bool (decide (errBad sl hl)) ∧ wx = wc)
  case first =>
    clear S4
    by_cases a1 : sl < 0
    · have b1 := decide_eq_true a1
      go_wp2_with fail
      go_meet
      case rel => exact ⟨congrArg Value.bool (decide_eq_true (p := errBad sl hl) (.inl a1)).symm, rfl⟩
    have b1 := decide_eq_false a1
    by_cases a2 : 1099511627776 < sl
    · have b2 := decide_eq_true a2
      go_wp2_with fail
      go_meet
      case rel => exact ⟨congrArg Value.bool (decide_eq_true (p := errBad sl hl) (.inr (.inl a2))).symm, rfl⟩
    have b2 := decide_eq_false a2
    by_cases a3 : hl < 0
    · have b3 := decide_eq_true a3
      go_wp2_with fail
      go_meet
      case rel => exact ⟨congrArg Value.bool (decide_eq_true (p := errBad sl hl) (.inr (.inr (.inl a3)))).symm, rfl⟩
    have b3 := decide_eq_false a3
    by_cases a4 : 1099511627776 < hl
    · have b4 := decide_eq_true a4
      go_wp2_with fail
      go_meet
      case rel => exact ⟨congrArg Value.bool (decide_eq_true (p := errBad sl hl) (.inr (.inr (.inr a4)))).symm, rfl⟩
    · have b4 := decide_eq_false a4
      have hno : ¬ errBad sl hl := fun h => h.elim a1 fun h => h.elim a2 fun h => h.elim a3 a4
      go_wp2_with fail
      go_meet
      case rel => exact ⟨congrArg Value.bool (decide_eq_false hno).symm, rfl⟩
  case rest =>
  obtain ⟨rfl, rfl⟩ := hcut
  go_upto_if 49 with fail
  obtain ⟨x5, hx5⟩ : ∃ x : Int, Hid (x = if errBad sl hl then 5 else 0) := ⟨_, rfl⟩
  go_cut [10] from 49 (fun bv wx => bv = .int .i64 x5 ∧ wx = wc)
  case first =>
    clear S4
    by_cases hb : errBad sl hl
    · have hb' := decide_eq_true hb
      have hx : x5 = 5 := by rw [hx5.out]; exact if_pos hb
      go_wp2_with fail
      go_meet
      case rel => exact ⟨by rw [hx], rfl⟩
    · have hb' := decide_eq_false hb
      have hx : x5 = 0 := by rw [hx5.out]; exact if_neg hb
      go_wp2_with fail
      go_meet
      case rel => exact ⟨by rw [hx], rfl⟩
  case rest =>
  obtain ⟨rfl, rfl⟩ := hcut
  go_upto_if 51 with fail
  obtain ⟨x4, hx4⟩ : ∃ x : Int, Hid (x = if 1048576 < (n : Int) then 4 else x5) := ⟨_, rfl⟩
  go_cut [10] from 50 (fun bv wx => bv = .int .i64 x4 ∧ wx = wc)
  case first =>
    clear S4
    by_cases hb : 1048576 < (n : Int)
    · have hx : x4 = 4 := by rw [hx4.out]; exact if_pos hb
      go_wp2_with fail
      go_meet
      case rel => exact ⟨by rw [hx], rfl⟩
    · have hx : x4 = x5 := by rw [hx4.out]; exact if_neg hb
      clear hx4
      subst hx
      go_wp2_with fail
      go_meet
      case rel => exact ⟨rfl, rfl⟩
  case rest =>
  obtain ⟨rfl, rfl⟩ := hcut
  go_upto_if 54 with fail
  obtain ⟨x2, hx2⟩ : ∃ x : Int, Hid (x = if (bits .and .i64 spoilt 3 == 1) = true then 210 else x4) := ⟨_, rfl⟩
  go_cut [10] from 52 (fun bv wx => bv = .int .i64 x2 ∧ wx = wc)
  case first =>
    clear S4
    cases hs : (bits .and .i64 spoilt 3 == 1) with
    | true =>
      have hx : x2 = 210 := by rw [hx2.out]; exact if_pos hs
      go_wp2_with fail
      go_meet
      case rel => exact ⟨by rw [hx], rfl⟩
    | false =>
      have hx : x2 = x4 := by rw [hx2.out]; exact if_neg (by rw [hs]; decide)
      clear hx2
      subst hx
      go_wp2_with fail
      go_meet
      case rel => exact ⟨rfl, rfl⟩
  case rest =>
  obtain ⟨rfl, rfl⟩ := hcut
  go_upto_region 15 with fail
  have NW := err_new spoilt sl hl x5 x4 x2 n b f (some ⟨wc.drew.heap.size, 0, none⟩) hx5.out hx4.out hx2.out
  clear hx5 hx4 hx2
  obtain ⟨Z, hZ, hmk⟩ := made_zeros n n1
  have hcs : c0 < (wc.drew.alloc (.cells Z 3)).heap.size := by have := S4.out.code.lt; simp; omega
  have S5 := Lib.hid (S4.out.tr (wy := wc.drew) (Only.refl _ _).drew)
  have CN := Lib.hid (S5.out.ca (show i64in (errMain spoilt) by unfold errMain; split <;> exact ⟨by decide, by decide⟩) n n1 Z hZ)
  have S6 := Lib.hid (S5.out.tr (wy := wc.drew.alloc (.cells Z 3)) ((Only.refl _ _).alloc _))
  have k0 := S4.out.code.cell 0
  have k1 := S4.out.code.cell 1
  have k2 := S4.out.code.cell 2
  simp only [List.getElem?_toArray, List.getElem?_cons_zero, List.getElem?_cons_succ] at k0 k1 k2
  clear S4 S5 hZ
  rcases NW with ⟨rfl, hm, hn2, hb⟩ | ⟨her, NC⟩
  · rw [hm] at CN S6 k2
    obtain ⟨c1, c2, c3, c4⟩ : ¬ sl < 0 ∧ ¬ 1099511627776 < sl ∧ ¬ hl < 0 ∧ ¬ 1099511627776 < hl := ⟨fun h => hb (.inl h), fun h => hb (.inr (.inl h)), fun h => hb (.inr (.inr (.inl h))), fun h => hb (.inr (.inr (.inr h)))⟩
    have OK : NewOk 8 (insOf sampleL) 1 (mainF 3 8) 0 (zeros n) sl hl := ⟨sample_ok, by rw [zeros_length]; exact hn2, c1, c2, c3, c4⟩
    have SK := Lib.hid (CN.out.sound OK)
    have NY0 := new_yes CN.out OK
    rw [zeros_length] at NY0
    have NY := Lib.hid NY0
    clear NY0 CN OK
    go_region_held3 (fun w' => w'.cell? ⟨c0, 0, none⟩ = some (.slice (some ⟨b, 0, none⟩) 8 8) ∧ w'.cell? ⟨c0, 1, none⟩ = some (.slice (some ⟨f, 0, none⟩) 1 1) ∧ w'.cell? ⟨c0, 2, none⟩ = some (.int .i64 0) ∧ w'.cell? ⟨w.heap.size, 0, none⟩ = some (.int .i64 sl) ∧ w'.cell? ⟨w.heap.size, 1, none⟩ = some (.int .i64 hl))
      (first | (go_keep; done) | (go_split_ands; exact ⟨e0, e1, e2, e3, e4⟩))
      ((go_at_call 19; refine NY.out.mono ?_; rintro e w4 ⟨g, rfl, hM4, hb4⟩; have S7 := Lib.hid (S6.out.tr (Only.ofBelow hb4)); have M7 := Lib.hid hM4; have h47 := hb4.size; have e0 : w4.cell? ⟨c0, 0, none⟩ = some (.slice (some ⟨b, 0, none⟩) 8 8) := S7.out.code.cell 0; have e1 : w4.cell? ⟨c0, 1, none⟩ = some (.slice (some ⟨f, 0, none⟩) 1 1) := S7.out.code.cell 1; have e2 : w4.cell? ⟨c0, 2, none⟩ = some (.int .i64 0) := S7.out.code.cell 2; have e3 : w4.cell? ⟨w.heap.size, 0, none⟩ = some (.int .i64 sl) := S7.out.lim.cell 0; have e4 : w4.cell? ⟨w.heap.size, 1, none⟩ = some (.int .i64 hl) := S7.out.lim.cell 1; clear hb4 hM4))
    go_upto_region 20 with (go_at_call 18; refine (num_c _ _).mono ?_; rintro e w9 ⟨rfl, hw9⟩; subst hw9)
    clear hb1
    generalize (World.alloc wc.drew _).heap.size = s0 at *
    obtain ⟨fi, ki, v0, dp, f2, k2', s2, d2, q0, q2, hq, hr, hmd, hst, V0, V2, hfin⟩ : ∃ fi ki v0 dp f2 k2 s2 d2 q0 q2, newQ (kOf 8 (insOf sampleL) 1 (mainF 3 8) 0 sl hl) (zeros n) = q0 ∧ runN (kOf 8 (insOf sampleL) 1 (mainF 3 8) 0 sl hl) (1099511627776 : Int).toNat q0 = q2 ∧ q0.steps + (madeN (kOf 8 (insOf sampleL) 1 (mainF 3 8) 0 sl hl) (1099511627776 : Int).toNat q0 : Int) < 4000000000000 ∧ (0 : Int) ≤ 0 ∧ QV q0 [] 0 fi ki v0 0 0 dp ∧ QV q2 [] 0 f2 k2 v0 s2 0 d2 ∧ v0 = 0 ∧
        ((sl < 3 ∧ fi = 2 ∧ ki = 7 ∧ dp = 0 ∧ f2 = 2 ∧ k2 = 7 ∧ s2 = 0 ∧ d2 = 0) ∨ (¬ sl < 3 ∧ fi = 0 ∧ ki = 0 ∧ dp = 1 ∧ f2 = 2 ∧ k2 = 1 ∧ s2 = 2 ∧ d2 = 1)) := by
      have ht : (1099511627776 : Int).toNat = 1099511627774 + 2 := rfl
      by_cases hs3 : sl < 3
      · obtain ⟨e1, e2, e3⟩ := err_small sl hl (zeros n) hs3 (1099511627776 : Int).toNat
        refine ⟨2, 7, 0, 0, 2, 7, 0, 0, _, _, rfl, rfl, ?_, by omega, ?_, ?_, rfl, .inl ⟨hs3, rfl, rfl, rfl, rfl, rfl, rfl, rfl⟩⟩
        · show (newQ (sampleK 0 sl hl) (zeros n)).steps + _ < _
          rw [show madeN (kOf 8 (insOf sampleL) 1 (mainF 3 8) 0 sl hl) (1099511627776 : Int).toNat (newQ (kOf 8 (insOf sampleL) 1 (mainF 3 8) 0 sl hl) (zeros n)) = 0 from e3, newQ_steps]
          decide
        · rw [show newQ (kOf 8 (insOf sampleL) 1 (mainF 3 8) 0 sl hl) (zeros n) = _ from e1]
          exact ⟨rfl, rfl, rfl, rfl, rfl, rfl, rfl, rfl⟩
        · rw [show runN (kOf 8 (insOf sampleL) 1 (mainF 3 8) 0 sl hl) (1099511627776 : Int).toNat (newQ (kOf 8 (insOf sampleL) 1 (mainF 3 8) 0 sl hl) (zeros n)) = _ from e2]
          exact ⟨rfl, rfl, rfl, rfl, rfl, rfl, rfl, rfl⟩
      · obtain ⟨r, hzr⟩ : ∃ r, zeros n = 0 :: r := by
          cases n with
          | zero => omega
          | succ k => exact ⟨List.replicate k 0, rfl⟩
        obtain ⟨q0, q2, e1, e2, e3, a1, a2, a3, a4, a5, a6, a7, b1, b2, b3, b4, b5, b6, b7⟩ := err_runs sl hl r hs3 1099511627774
        refine ⟨0, 0, 0, 1, 2, 1, 2, 1, q0, q2, by rw [hzr]; exact e1, by rw [ht]; exact e2, ?_, by omega, ⟨a7, rfl, a1, a2, a3, a4, a5, a6⟩, ⟨b7, rfl, b1, b2, b3, b4, b5, b6⟩, rfl, .inr ⟨hs3, rfl, rfl, rfl, rfl, rfl, rfl, rfl⟩⟩
        rw [ht, show madeN (kOf 8 (insOf sampleL) 1 (mainF 3 8) 0 sl hl) (1099511627774 + 2) q0 = 2 from e3, a4]
        decide
    obtain ⟨rfl, hfin⟩ := hfin
    rw [hq] at M7
    have HR := Lib.hid hr
    have HMD := Lib.hid hmd
    have V0 := Lib.hid V0
    have V2 := Lib.hid V2
    have HFIN := Lib.hid hfin
    clear hq hr hmd hst hfin e0 e1 e2 e3 e4 k0 k1 k2 l0 l1 S6 NY
    have OC := Lib.hid (out_v M7.out V0.out)
    have M4 := Lib.hid (M7.out.more (D := fun x => s0 ≤ x ∧ x < w9.heap.size) fun b hb h => ⟨h, hb⟩)
    clear M7
    go_upto_region 21 with (go_at_call 22; refine OC.out.mono ?_; rintro e w5 ⟨A5, c5, rfl, R5, b5⟩)
    have hs5 := b5.size
    have o6 : Only (fun _ => False) w5 (w5.alloc (.cells #[.slice A5 0 c5, .int .i64 fi, .int .i64 ki, .int .i64 0, .int .i64 0, .int .i64 0, .int .i64 dp] 44)) := (Only.refl _ w5).alloc _
    have B6 := Lib.hid (blk_at rfl : Blk (w5.alloc (.cells #[.slice A5 0 c5, .int .i64 fi, .int .i64 ki, .int .i64 0, .int .i64 0, .int .i64 0, .int .i64 dp] 44)) w5.heap.size 44 #[.slice A5 0 c5, .int .i64 fi, .int .i64 ki, .int .i64 0, .int .i64 0, .int .i64 0, .int .i64 dp])
    have R6 := Lib.hid (R5.tr (G' := fun b => w9.heap.size ≤ b ∧ b < w5.heap.size) o6 fun b hb h => ⟨fun h => h, h, hb⟩)
    have M6 := Lib.hid ((M4.out.keep (Only.ofBelow (F := fun _ => False) b5) fun _ _ _ h => h).keep o6 fun _ _ _ h => h)
    have S6 := Lib.hid ((S7.out.tr (Only.ofBelow b5)).tr (o6.mono fun _ _ h => h.elim))
    have hs6 : (w5.alloc (.cells #[.slice A5 0 c5, .int .i64 fi, .int .i64 ki, .int .i64 0, .int .i64 0, .int .i64 0, .int .i64 dp] 44)).heap.size = w5.heap.size + 1 := by simp
    clear R5 b5 o6 M4 S7 OC
    generalize World.alloc w5 _ = w6 at *
    generalize w5.heap.size = s5 at *
    go_upto_region 22 with (go_at_call 20; refine (run_big _ g 1099511627777 (by decide) (by decide)).mono ?_; rintro e w7 ⟨rfl, b7⟩)
    have hs7 := b7.size
    have o8 : Only (fun _ => False) w7 (w7.alloc (.cells #[.slice none 0 0, .int .i64 0, .int .i64 0, .int .i64 0, .int .i64 0, .int .i64 0, .int .i64 0] 44)) := (Only.refl _ w7).alloc _
    have o68 := (Only.ofBelow (F := fun _ => False) b7).trans o8 fun _ _ h => h
    have B8 := Lib.hid (B6.out.only o68 (fun h => h))
    have R8 := Lib.hid (R6.out.tr (G' := fun b => w9.heap.size ≤ b ∧ b < s5) o68 fun b _ h => ⟨fun h => h, h⟩)
    have hs8 : (w7.alloc (.cells #[.slice none 0 0, .int .i64 0, .int .i64 0, .int .i64 0, .int .i64 0, .int .i64 0, .int .i64 0] 44)).heap.size = w7.heap.size + 1 := by simp
    have M8 := Lib.hid ((M6.out.keep o68 fun _ _ _ h => h).more (D := fun x => s0 ≤ x ∧ (x < w9.heap.size ∨ w7.heap.size + 1 ≤ x)) fun b _ h => ⟨h.1, .inl h.2⟩)
    have S8 := Lib.hid (S6.out.tr (o68.mono fun _ _ h => h.elim))
    clear b7 o8 o68 B6 R6 M6 S6
    generalize World.alloc w7 _ = w8 at *
    generalize w7.heap.size = s7 at *
    have h49 : s0 ≤ w9.heap.size := h47
    have RC := Lib.hid (run_v SK.out M8.out (fun b hb => ⟨by omega, .inr (by omega)⟩) 1099511627776 (by decide) (by decide) HMD.out HR.out V2.out)
    go_upto_region 23 with (go_at_call 20; refine RC.out.mono ?_; rintro e wa ⟨Aa, ca, rfl, Ra, Ma, Oa⟩)
    have hsa := Oa.size
    have ob : Only (fun _ => False) wa (wa.alloc (.cells #[.slice Aa 0 ca, .int .i64 f2, .int .i64 k2', .int .i64 0, .int .i64 s2, .int .i64 0, .int .i64 d2] 44)) := (Only.refl _ wa).alloc _
    have Bb := Lib.hid (blk_at rfl : Blk (wa.alloc (.cells #[.slice Aa 0 ca, .int .i64 f2, .int .i64 k2', .int .i64 0, .int .i64 s2, .int .i64 0, .int .i64 d2] 44)) wa.heap.size 44 #[.slice Aa 0 ca, .int .i64 f2, .int .i64 k2', .int .i64 0, .int .i64 s2, .int .i64 0, .int .i64 d2])
    have Rb := Lib.hid (Ra.tr (G' := fun _ => True) ob fun b hb h => ⟨fun h => h, trivial⟩)
    have Ba := Lib.hid ((B8.out.only Oa (fun h => by have := h.2; omega)).only ob (fun h => h))
    have Rc := Lib.hid ((R8.out.tr (G' := fun _ => True) Oa fun b hb h => ⟨fun e => by have h1 := h.1; have h2 := h.2; have h3 := e.2; omega, trivial⟩).tr (G' := fun _ => True) ob fun b hb h => ⟨fun h => h, trivial⟩)
    have Sb := Lib.hid ((S8.out.far s0 hcs (Oa.mono fun b _ h => h.1)).tr (ob.mono fun _ _ h => h.elim))
    clear Ra Ma Oa ob B8 R8 S8 M8 RC
    generalize World.alloc wa _ = wb at *
    generalize wa.heap.size = sa at *
    have x1 := Ba.out.cell 1
    have x2 := Ba.out.cell 2
    have x3 := Ba.out.cell 3
    have x4' := Ba.out.cell 4
    have x5' := Ba.out.cell 5
    have x6 := Ba.out.cell 6
    have x0 := Ba.out.cell 0
    have y0 := Bb.out.cell 0
    have y1 := Bb.out.cell 1
    have y2 := Bb.out.cell 2
    have y3 := Bb.out.cell 3
    have y4 := Bb.out.cell 4
    have y5 := Bb.out.cell 5
    have y6 := Bb.out.cell 6
    have l0 := Sb.out.lim.cell 0
    simp only [List.getElem?_toArray, List.getElem?_cons_zero, List.getElem?_cons_succ] at x0 x1 x2 x3 x4' x5' x6 y0 y1 y2 y3 y4 y5 y6 l0
    clear HR HMD V0 V2
    rcases HFIN.out with ⟨h3', rfl, rfl, rfl, rfl, rfl, rfl, rfl⟩ | ⟨h3', rfl, rfl, rfl, rfl, rfl, rfl, rfl⟩
    · have hl3 := decide_eq_true h3'
      have SC := Lib.hid (same_yes wb _ _ A5 Aa 0 c5 ca [] rfl 2 7 0 0 0 0 Rc.out Rb.out (by decide))
      go_wp2_with (first | (go_at_call 18; refine (num_c _ _).mono ?_; rintro e w9 ⟨rfl, hw9⟩; subst hw9) | (go_at_call 23; refine SC.out.mono ?_; rintro e wz ⟨rfl, bz⟩))
      go_ret
      exact ⟨rfl, (Sb.out.tr (Only.ofBelow bz)).below⟩
    · have hl3 := decide_eq_false (show ¬ sl < 3 by omega)
      go_wp2_with (first | (go_at_call 18; refine (num_c _ _).mono ?_; rintro e w9 ⟨rfl, hw9⟩; subst hw9))
      go_ret
      exact ⟨rfl, Sb.out.below⟩
  · have NC := Lib.hid (NC _ _ CN.out)
    clear CN
    go_region_held3 (fun w' => w'.cell? ⟨c0, 0, none⟩ = some (.slice (some ⟨b, 0, none⟩) 8 8) ∧ w'.cell? ⟨c0, 1, none⟩ = some (.slice (some ⟨f, 0, none⟩) 1 1) ∧ w'.cell? ⟨c0, 2, none⟩ = some (.int .i64 (errMain spoilt)) ∧ w'.cell? ⟨w.heap.size, 0, none⟩ = some (.int .i64 sl) ∧ w'.cell? ⟨w.heap.size, 1, none⟩ = some (.int .i64 hl))
      (first | (go_keep; done) | (go_split_ands; exact ⟨e0, e1, e2, e3, e4⟩))
      ((go_at_call 19; refine NC.out.mono ?_; rintro e w4 ⟨rfl, hb4⟩; have S7 := Lib.hid (S6.out.tr (Only.ofBelow hb4)); have e0 : w4.cell? ⟨c0, 0, none⟩ = some (.slice (some ⟨b, 0, none⟩) 8 8) := S7.out.code.cell 0; have e1 : w4.cell? ⟨c0, 1, none⟩ = some (.slice (some ⟨f, 0, none⟩) 1 1) := S7.out.code.cell 1; have e2 : w4.cell? ⟨c0, 2, none⟩ = some (.int .i64 (errMain spoilt)) := S7.out.code.cell 2; have e3 : w4.cell? ⟨w.heap.size, 0, none⟩ = some (.int .i64 sl) := S7.out.lim.cell 0; have e4 : w4.cell? ⟨w.heap.size, 1, none⟩ = some (.int .i64 hl) := S7.out.lim.cell 1; clear hb4))
    clear NC S6 k0 k1 k2 l0 l1 e0 e1 e2 e3 e4
    rcases her with rfl | rfl | rfl
    all_goals
      go_wp2_with (go_at_call 18; refine (num_c _ _).mono ?_; rintro e w9 ⟨rfl, hw9⟩; subst hw9)
      go_ret
      exact ⟨rfl, S7.out.below⟩
end Go.Proofs.Ytkjfbojmkkdgoaa
