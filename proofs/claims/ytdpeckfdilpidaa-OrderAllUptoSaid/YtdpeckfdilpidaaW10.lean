/- reached: what it tells. -/
import Derived.Test.YtdpeckfdilpidaaW5
import Derived.Test.YtdpeckfdilpidaaPlain5
set_option linter.unusedVariables false
set_option linter.unusedSimpArgs false
namespace Go.Proofs.Ytdpeckfdilpidaa
open Go.RowKit
attribute [local go_sem ↓] Go.wp_at_zero Go.wp_at_succ
def ReachedPost (w : World) (len : Nat) (X : Nat → List Int) (fr : Nat) (e : Ending) (w' : World) : Prop :=
  ∃ sb f, e = .returned (.slice (some ⟨sb, 0, none⟩) len len) ∧ Blk w' sb 4 (bools len f) ∧ (∀ k, f k = true ↔ To X fr k) ∧ Below w.heap.size w w' ∧ w.heap.size ≤ sb
structure RI (w wr : World) (G : Nat → Prop) (A : Option Addr) (len : Nat) (X : Nat → List Int) (fr sb : Nat) (f : Nat → Bool) (lv : Value) (ls : List Nat) (i j : Nat) : Prop where
  rl : RLL wr G A len X
  seen : Blk wr sb 4 (bools len f)
  row : Row wr (fun b => w.heap.size ≤ b) 3 1 lv ls.length (nums (ofNats ls))
  below : Below w.heap.size w wr
  sb : w.heap.size ≤ sb
  bf : BF len X fr f ls i j
theorem ofNats_get (l : List Nat) {i : Nat} (h : i < l.length) : (ofNats l).getD i 0 = ((l.getD i 0 : Nat) : Int) := by
  simp [ofNats, List.getD_eq_getElem?_getD, h]
theorem RI.start {w : World} {G : Nat → Prop} {A : Option Addr} {len : Nat} {X : Nat → List Int} {fr : Nat} (h : RLL w G A len X) (hG : ∀ k, G k → k < w.heap.size) (hf : fr < len) :
    RI w (((w.alloc (.cells (bools len fun _ => false) 4)).setCell ⟨w.heap.size, fr, none⟩ (.bool true)).alloc (.cells #[.int .i64 (fr : Int)] 3)) G A len X fr w.heap.size (fun k => if k = fr then true else false) (.slice (some ⟨w.heap.size + 1, 0, none⟩) 1 1) [fr] 0 0 := by
  have o : Only (fun _ => False) w (((w.alloc (.cells (bools len fun _ => false) 4)).setCell ⟨w.heap.size, fr, none⟩ (.bool true)).alloc (.cells #[.int .i64 (fr : Int)] 3)) :=
    (((Only.refl (fun _ => False) w).alloc _).setCell (p := ⟨w.heap.size, fr, none⟩) (.inr (Nat.le_refl _)) _).alloc _
  have z : ((w.alloc (.cells (bools len fun _ => false) 4)).setCell ⟨w.heap.size, fr, none⟩ (.bool true)).heap.size = w.heap.size + 1 := by simp [World.setCell]
  have b1 := (Blk.new w 4 (bools len fun _ => false)).set_ fr (.bool true)
  rw [bools_set len _ hf] at b1
  have r := Row.fresh (w := ((w.alloc (.cells (bools len fun _ => false) 4)).setCell ⟨w.heap.size, fr, none⟩ (.bool true)).alloc (.cells #[.int .i64 (fr : Int)] 3)) (b := w.heap.size + 1) (l := [(fr : Int)]) (by have := heap_alloc_new ((w.alloc (.cells (bools len fun _ => false) 4)).setCell ⟨w.heap.size, fr, none⟩ (.bool true)) (.cells #[.int .i64 (fr : Int)] 3); rw [z] at this; exact this) rfl (by simp [maxLen])
  exact ⟨h.only o (fun _ _ _ h => h), b1.alloc _, r.mono fun b _ hb => by omega, o.toBelow (Nat.le_refl _) (fun _ _ h => h), Nat.le_refl _, BF.start hf⟩
theorem RI.added {w wr w4 : World} {G : Nat → Prop} {A : Option Addr} {len : Nat} {X : Nat → List Int} {fr sb : Nat} {f : Nat → Bool} {lv lv1 : Value} {ls : List Nat} {i j b : Nat} {obj : Obj} (h : RI w wr G A len X fr sb f lv ls i j) (hG : ∀ k, G k → k < w.heap.size) (hX : Right len X)
    (hi : i < ls.length) (hj : j < (X (ls.getD i 0)).length) (hb : b = way X (ls.getD i 0) j) (hf : f b = false) (hbl : b < len)
    (hown : w4.ownsRow 0 3 1 lv1 (ls.length + 1) (nums (ofNats ls) ++ [.int .i64 (b : Int)])) (hg : ((wr.setCell ⟨sb, b, none⟩ (.bool true)).alloc obj).grownBy w4 lv.ownBlock) (hat : lv1.ownBlock = lv.ownBlock ∨ ∃ k, lv1.ownBlock = some k ∧ wr.heap.size ≤ k) :
    RI w w4 G A len X fr sb (fun k => if k = b then true else f k) lv1 (ls ++ [b]) i (j + 1) := by
  have hB := h.below.size
  have o1 : Only (fun k => k = sb) wr ((wr.setCell ⟨sb, b, none⟩ (.bool true)).alloc obj) := ((Only.refl (fun k => k = sb) wr).setCell (p := ⟨sb, b, none⟩) (.inl rfl) _).alloc obj
  have o2 : Only (fun k => lv.ownBlock = some k) ((wr.setCell ⟨sb, b, none⟩ (.bool true)).alloc obj) w4 := (Only.refl _ _).grown hg fun k hk => .inl hk
  have o : Only (fun k => k = sb ∨ lv.ownBlock = some k) wr w4 := (o1.mono fun k _ e => .inl e).trans o2 fun k _ e => .inr e
  have nb : lv.ownBlock ≠ some sb := own_blk_ne h.row.1 h.seen (by decide)
  have k1 : Blk (wr.setCell ⟨sb, b, none⟩ (.bool true)) sb 4 _ := h.seen.set_ b (.bool true)
  rw [bools_set len f hbl] at k1
  refine ⟨h.rl.only o (fun k _ hk hf => ?_), (k1.alloc obj).only o2 nb, ⟨?_, fun k hk => ?_⟩, h.below.trans (o.toBelow hB fun k hk hf => ?_), h.sb, h.bf.add hX hi hj hb hf⟩
  · have := hG k hk
    rcases hf with e | e
    · have := h.sb; omega
    · have := h.row.2 k e; omega
  · have e : nums (ofNats (ls ++ [b])) = nums (ofNats ls) ++ [.int .i64 (b : Int)] := by simp [nums, ofNats]
    rw [e, List.length_append]; exact hown
  · rcases hat with e | ⟨k', e, hk'⟩
    · exact h.row.2 k (by rw [← e]; exact hk)
    · rw [e] at hk; injection hk with hk; omega
  · rcases hf with e | e
    · have := h.sb; omega
    · have := h.row.2 k e; omega
set_option maxRecDepth 100000 in
set_option maxHeartbeats 8000000 in
theorem reached_c (w : World) (G : Nat → Prop) (A : Option Addr) (len cap : Nat) (X : Nat → List Int) (h : RLL w G A len X) (hG : ∀ k, G k → k < w.heap.size) (hX : Right len X) (fr : Nat) (hf : fr < len) (hl : len ≤ 250000) :
    Calls Try.prog 17 #[.slice A len cap, .int .i64 (fr : Int)] w (ReachedPost w len X fr) := by
  have hmk := made_bools len (by omega)
  have HG := Lib.hid hG
  have HX := Lib.hid hX
  have s0 := RI.start h hG hf
  rw [World.setCell_alloc_at _ _ _ _ _ rfl] at s0
  have S0 := Lib.hid s0
  clear s0
  have c0 : (w.alloc (.cells (bools len fun _ => false) 4)).cell? ⟨w.heap.size, fr, none⟩ = some (.bool false) := ((Blk.new w 4 (bools len fun _ => false)).cell fr).trans (bools_get len _ hf)
  have f0 : (w.alloc (.cells (bools len fun _ => false) 4)).frozen? ⟨w.heap.size, fr, none⟩ = false := (Blk.new w 4 (bools len fun _ => false)).frozen fr
  clear h hG hX
  go_enter Try.func17, Try.ntmps17
  go_wp2_with fail
  go_loopw [6, 7] (fun lv iv wr => ∃ (i : Nat) (f : Nat → Bool) (ls : List Nat), iv = .int .i64 (i : Int) ∧ Hid (RI w wr G A len X fr w.heap.size f lv ls i 0)) (fun _ iv _ => len - (intOf iv).toNat)
  case atStart => exact ⟨0, _, _, rfl, S0⟩
  case round =>
    clear S0 c0 f0 hmk
    obtain ⟨i, f, ls, rfl, HR⟩ := hrel
    have hil := HR.out.bf.il
    have hls := HR.out.bf.size
    obtain ⟨La, lcap, rfl, hlc⟩ := HR.out.row.shape
    by_cases hi : i < ls.length
    · obtain ⟨lsz, hlsz⟩ : ∃ z, z = ls.length := ⟨_, rfl⟩
      have HLS := Lib.hid hlsz
      rw [← hlsz] at hil hls hlc hi HR ⊢
      clear hlsz
      obtain ⟨x, hx⟩ : ∃ x, x = ls.getD i 0 := ⟨_, rfl⟩
      have hxl : x < len := by rw [hx]; exact (HR.out.bf.lt _ (getD_mem (by rw [← HLS.out]; exact hi))).1
      obtain ⟨L, hL⟩ : ∃ L, L = (X x).length := ⟨_, rfl⟩
      have HL := Lib.hid hL
      have HI : Hid (∃ f ls', RI w wr G A len X fr w.heap.size f (.slice La lsz lcap) ls' i 0 ∧ i < ls'.length ∧ ls'.getD i 0 = x) := ⟨f, ls, HR.out, by rw [← HLS.out]; exact hi, hx.symm⟩
      clear HR HLS hx hL
      go_wp2_with fail
      go_loopw [6, 8] (fun lv jv wr => ∃ (j : Nat), j ≤ L ∧ jv = .int .i64 (j : Int) ∧ Hid (∃ f ls', RI w wr G A len X fr w.heap.size f lv ls' i j ∧ i < ls'.length ∧ ls'.getD i 0 = x)) (fun _ jv _ => L - (intOf jv).toNat)
      case atStart => exact ⟨0, Nat.zero_le _, rfl, HI⟩
      case round =>
        clear HI hil hls hlc hi
        obtain ⟨j, hjL, rfl, HE⟩ := hrel
        obtain ⟨f, ls, hR, hi, hx⟩ := HE.out
        have HR := Lib.hid hR
        have HX2 := Lib.hid hx
        have hls := hR.bf.size
        obtain ⟨lb, lcap, rfl, hlb, hlbl, hlc⟩ := hR.row.form (by omega)
        have cl := hR.row.cell (nums_get (ofNats ls) i (by rw [ofNats_length]; exact hi))
        rw [ofNats_get ls hi, hx] at cl
        obtain ⟨b, off, Ak, ck, rfl, hGb, hbl, ck0, hRL⟩ := hR.rl.at_ x hxl
        rw [← HL.out] at ck0
        have hLb : L ≤ 9223372036854775807 := by rw [HL.out]; exact hRL.1
        have RR := Lib.hid hRL.2
        have HSZ := Lib.hid (show ls.length = ls.length from rfl)
        clear hR hx HE hRL
        by_cases hj : j < L
        · have hj2 : j < (X x).length := by rw [← HL.out]; exact hj
          obtain ⟨_, b2, off2, rfl, hG2, hb2l, cx⟩ := RR.out j hj2
          have hyl := way_lt HX.out hxl hj2
          have hyw : (X x).getD j 0 = ((way X x j : Nat) : Int) := by
            have := HX.out x hxl j hj2
            unfold way; omega
          rw [hyw] at cx
          obtain ⟨y, hy⟩ : ∃ y, y = way X x j := ⟨_, rfl⟩
          rw [← hy] at hyl cx
          have HY := Lib.hid hy
          clear hyw hy hj2 RR
          have cs : wr.cell? ⟨w.heap.size, y, none⟩ = some (.bool (f y)) := (HR.out.seen.cell y).trans (bools_get len f hyl)
          cases hfy : f y with
          | true =>
            rw [hfy] at cs
            have K : Hid (∃ f ls', RI w wr G (some ⟨b, off, none⟩) len X fr w.heap.size f (.slice (some ⟨lb, 0, none⟩) ls.length lcap) ls' i (j + 1) ∧ i < ls'.length ∧ ls'.getD i 0 = x) :=
              ⟨f, ls, ⟨HR.out.rl, HR.out.seen, HR.out.row, HR.out.below, HR.out.sb, HR.out.bf.skip (by rw [HX2.out, ← HL.out]; exact hj) (by rw [HX2.out, ← HY.out]; exact hfy)⟩, hi, HX2.out⟩
            clear HR hfy
            generalize ls.length = lsz at *
            go_wp2_with fail
            go_roundw
            case rel => exact ⟨j + 1, by omega, by go_num, K⟩
            case measure => first | (simp [intOf]; done) | (simp [intOf]; omega)
          | false =>
            rw [hfy] at cs
            have fs : wr.frozen? ⟨w.heap.size, y, none⟩ = false := HR.out.seen.frozen y
            obtain ⟨i0, hI, hz0, hz1, hz2⟩ := info_parts info3
            have HI := Lib.hid hI
            have HZ0 := Lib.hid hz0
            have HZ1 := Lib.hid hz1
            have HZ2 := Lib.hid hz2
            have nb : (Value.slice (some ⟨lb, 0, none⟩) ls.length lcap).ownBlock ≠ some w.heap.size := own_blk_ne HR.out.row.1 HR.out.seen (by decide)
            have DR := Lib.hid (HR.out.row.far (p := ⟨w.heap.size, y, none⟩) nb (.bool true)).1
            have HF := Lib.hid hfy
            have FIN := Lib.hid (fun w4 lv1 => HR.out.added (w4 := w4) (lv1 := lv1) (obj := .cells #[.int .i64 (y : Int)] 3) HG.out HX.out hi (by rw [HX2.out, ← HL.out]; exact hj) (by rw [HX2.out]; exact HY.out) hfy hyl)
            clear hI hz0 hz1 hz2 hfy nb
            generalize hlsz : ls.length = lsz at *
            have HLS := Lib.hid hlsz
            clear hlsz
            go_wp2_with (at_builtin; go_must (refine wpList_append_lies _ rfl (.tmp 54) (.tmp 56) 27 rfl 0 3 i0 _ 1 8 Try.underlying27 HI.out HZ0.out HZ1.out HZ2.out rfl (by omega) (.slice (some ⟨lb, 0, none⟩) lsz lcap) lsz (nums (ofNats ls)) rfl (DR.out.alloc _) ⟨wr.heap.size, 0, none⟩ 1 1 [.int .i64 (y : Int)] rfl rfl (World.news_of_block (cs := #[.int .i64 (y : Int)]) (t := 3) (fr := (0, 0)) (alloc_at_set _ _ _ _)) (by simp [Value.oneCell']) (by omega) (by unfold maxLen; omega) (by omega) (Nat.zero_le _) (wr.heap.size + 1) (by simp) ?_); go_must (intro gg cap' w4 hown hgrow hat hlt4; have HW := Lib.hid hown; have HGr := Lib.hid hgrow; have HA := Lib.hid hat; clear hown hgrow hat))
            go_roundw
            case rel => exact ⟨j + 1, by omega, by go_num, _, _, FIN.out _ _ HW.out HGr.out (HA.out.imp (fun e => e.symm) (fun e => ⟨gg, rfl, by omega⟩)), by rw [List.length_append, HLS.out]; omega, by rw [getD_app (by rw [HLS.out]; omega)]; exact HX2.out⟩
            case measure => first | (simp [intOf]; done) | (simp [intOf]; omega)
        · have K := Lib.hid (HR.out.bf.next hi (by rw [HX2.out, ← HL.out]; omega))
          clear RR
          generalize hz : ls.length = lsz at *
          go_wp2_with fail
          go_roundw
          case rel => exact ⟨i + 1, f, ls, by go_num, ⟨HR.out.rl, HR.out.seen, HR.out.row, HR.out.below, HR.out.sb, K.out⟩⟩
          case measure => first | (simp [intOf]; done) | (simp [intOf]; omega)
    · have E := Lib.hid (HR.out.bf.end_ (by omega))
      have K := Lib.hid HR.out
      clear HR
      generalize ls.length = lsz at *
      go_wp2_with fail
      go_ret
      exact ⟨_, _, rfl, K.out.seen, E.out, K.out.below, Nat.le_refl _⟩
end Go.Proofs.Ytdpeckfdilpidaa
