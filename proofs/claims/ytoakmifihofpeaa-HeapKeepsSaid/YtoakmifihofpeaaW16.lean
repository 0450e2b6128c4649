/- HeapKeeps: the walk. -/
import Derived.Test.YtoakmifihofpeaaW15
import Derived.Test.YtoakmifihofpeaaArgs
import Derived.Deep.DrawnRows
set_option linter.unusedVariables false
set_option linter.unusedSimpArgs false
namespace Go.Proofs.Ytoakmifihofpeaa
open Go.RowKit
attribute [local go_sem ↓] Go.wp_at_zero Go.wp_at_succ
theorem alloc2_new (w : World) (o1 o2 : Obj) : ((w.alloc o1).alloc o2).heap[w.heap.size + 1]? = some o2 := by
  have h := heap_alloc_new (w.alloc o1) o2
  rwa [show (w.alloc o1).heap.size = w.heap.size + 1 by simp] at h
theorem info32 : (Try.prog.info? 32).map (fun i => (i.zero, i.size, i.bytes)) = some (some (.slice none 0 0), 1, 24) := by kernel_rfl
theorem made_row (n : Nat) (hn : n < 50) : ∃ Z : Array Value, Z.toList = nums (List.replicate n 0) ∧ ∀ W' : World, (Instr.makeSlice 32 (.int .i64 (n : Int)) (.int .i64 (n : Int))).run Try.prog W' = .ok (.slice (some ⟨W'.heap.size, 0, none⟩) n n) (W'.alloc (.cells Z 3)) := by
  obtain ⟨i0, hI, hz0, hz1, hz2⟩ := info_parts info3
  refine ⟨madeCells (Value.int .i64 0).cells (n * 1), ?_, fun W' => ?_⟩
  · have e : nums (List.replicate n 0) = List.replicate n (.int .i64 0) := by simp [nums, List.map_replicate]
    rw [e, List.eq_replicate_iff]
    refine ⟨by simp [madeCells], fun b hb => ?_⟩
    simp [madeCells, Value.cells] at hb
    obtain ⟨j, _, rfl⟩ := hb
    rw [Nat.mod_one]
    rfl
  · have := run_makeSlice (P := Try.prog) (w := W') 32 3 i0 (.int .i64 0) Try.underlying32 hI hz0 .i64 .i64 (n : Int) (n : Int) (by omega) (Int.le_refl _) (by rw [hz1]; simp; omega) (by rw [hz2]; simp; omega) (by omega)
    rw [hz1] at this
    simpa using this
theorem KP.make_c {w wr : World} {g c : Nat} {va vw : Value} {q : QH} {N : Nat} {ad : Nat → Int} {X : Nat → List Int} {V : Nat → Value} {FH FA FW : Nat → Prop} (h : KP w wr g c va vw q N ad X V FH FA FW) (n : Nat) (hn : n < 50) (hN : N < 200) (hc : c < 1000000) :
    Calls Try.prog 15 #[.pointer (some ⟨g, 0, none⟩), .int .i64 (n : Int)] wr fun e W => e = .returned (.tuple #[.int .i64 (q.tk + 1), .bool true]) ∧ Hid (HeapAt W FH g (c + 1) (q.make n) ∧ Only FH wr W) := by
  have := h.tk
  have hf : 0 ≤ (n : Int) ∧ (n : Int) < 4611686018427387904 - q.tk := ⟨by omega, by omega⟩
  refine (Go.Proofs.Ytoakmifihofpeaa.make_c wr FH g c q n h.hp h.kept.ok hc ⟨by omega, by omega⟩).mono ?_
  rintro e W ⟨rfl, h1, h2⟩
  exact ⟨by rw [makeA_of hf, fits_of hf], h1, h2⟩
def Going1 (w wr : World) (g k : Nat) (next va vw : Value) : Prop := ∃ q ad X V FH FA FW, next = .int .i64 (q.tk + 1) ∧ KP w wr g k va vw q k ad X V FH FA FW
theorem ads_get (ad : Nat → Int) {N k : Nat} (h : k < N) : (nums ((List.range N).map ad))[k]? = some (.int .i64 (ad k)) := by simp [nums, h]
theorem qset_tk (q : QH) (a i v : Int) : (q.set a i v).tk = q.tk := by
  unfold QH.set
  split <;> rfl
theorem KP.quiet {w wr w1 : World} {g c : Nat} {va vw : Value} {q : QH} {N : Nat} {ad : Nat → Int} {X : Nat → List Int} {V : Nat → Value} {FH FA FW : Nat → Prop} (h : KP w wr g c va vw q N ad X V FH FA FW) (o1 : Only (fun _ => False) wr w1) :
    KP w w1 g c va vw q N ad X V FH FA FW := by
  have hB := h.below.size
  have s1 := o1.size
  exact ⟨h.below.trans (o1.toBelow hB fun b hb hf => hf), h.hp.only o1 (fun _ _ _ h => h), h.ad_.only o1 (fun _ _ h => h), h.wt.only o1 (fun _ _ _ h => h), h.kept,
    fun b hb => by have := h.bH b hb; omega, fun b hb => by have := h.bA b hb; omega, fun b hb => by have := h.bW b hb; omega, h.d1, h.d2, h.lens, h.tk⟩
def Going2 (w wr : World) (g c : Nat) (va vw : Value) (N : Nat) (tk : Int) (ad : Nat → Int) (V : Nat → Value) : Prop := ∃ q X FH FA FW, q.tk = tk ∧ KP w wr g c va vw q N ad X V FH FA FW
set_option maxRecDepth 100000 in
set_option maxHeartbeats 16000000 in
theorem keeps_c (A0 : Option Addr) (len0 cap0 : Nat) (F0 : Nat → Nat → Int) (A1 : Option Addr) (len1 cap1 : Nat) (F1 : Nat → Nat → Int) (w : World) (r0 : RS w 1 A0 len0 F0) (r1 : RS w 3 A1 len1 F1) :
    Calls Try.prog 6 #[.slice A0 len0 cap0, .slice A1 len1 cap1] w fun e w' => e = .returned (.bool true) ∧ Below w.heap.size w w' := by
  have R0 := Lib.hid r0
  have R1 := Lib.hid r1
  have hl0 := r0.1
  have hl1 := r1.1
  clear r0 r1
  by_cases hg0 : 200 < len0
  · go_enter Try.func6, Try.ntmps6
    go_wp2_with fail
    go_ret
    exact ⟨rfl, Below.refl _ _⟩
  by_cases hg1 : 2000 < len1
  · go_enter Try.func6, Try.ntmps6
    go_wp2_with fail
    go_ret
    exact ⟨rfl, Below.refl _ _⟩
  have AC := Lib.hid (alive_c w)
  obtain ⟨i0, hI, hz0, hz1, hz2⟩ := info_parts info3
  have HI := Lib.hid hI
  have HZ0 := Lib.hid hz0
  have HZ1 := Lib.hid hz1
  have HZ2 := Lib.hid hz2
  obtain ⟨i1, kI, kz0, kz1, kz2⟩ := info_parts info32
  have KI := Lib.hid kI
  have KZ0 := Lib.hid kz0
  have KZ1 := Lib.hid kz1
  have KZ2 := Lib.hid kz2
  clear hI hz0 hz1 hz2 kI kz0 kz1 kz2
  go_enter Try.func6, Try.ntmps6
  go_wp2_with fail
  refine AC.out.mono ?_
  rintro e w1 ⟨rfl, hb⟩
  have HB := Lib.hid hb
  clear hb
  go_wp2_with fail
  refine (new_c w1).mono ?_
  rintro e w2 ⟨rfl, hh, hb⟩
  have hs1 : w.heap.size ≤ w1.heap.size := HB.out.size
  have E0 : Hid (Going1 w w2 (w1.heap.size + 2) 0 (.int .i64 1) (.slice none 0 0) (.slice none 0 0)) :=
    ⟨QH.empty, fun _ => 0, fun _ => [], fun _ => .bool false, fun b => w1.heap.size ≤ b ∧ b < w2.heap.size, fun _ => False, fun _ => False, rfl, HB.out.trans (hb.mono hs1), hh.more fun b hb h => ⟨h, hb⟩, Row.nil_ _ _ _ _, LL.empty _ _ _ _ _, Kept.empty _ _,
      fun b hb => by omega, fun b hb => hb.elim, fun b hb => hb.elim, fun b _ => ⟨fun h => h, fun h => h⟩, fun b hb => hb.elim, fun k hk => absurd hk (Nat.not_lt_zero _), by show (0 : Int) ≤ _; omega⟩
  clear hh hb HB AC
  generalize w1.heap.size + 2 = g at *
  go_wp2_with fail
  go_loopw [7, 8, 9, 10] (fun nx va vw i wr => ∃ k : Nat, k ≤ len0 ∧ i = .int .i64 (k : Int) ∧ Hid (Going1 w wr g k nx va vw)) (fun _ _ _ i _ => len0 - (intOf i).toNat)
  case atStart => exact ⟨0, by omega, rfl, E0⟩
  case round =>
    obtain ⟨k, hk, rfl, HR⟩ := hrel
    obtain ⟨q, ad, X, V, FH, FA, FW, rfl, hKP⟩ := HR.out
    have K := Lib.hid hKP
    clear hKP HR E0
    by_cases hlt : k < len0
    · obtain ⟨b, off, rfl, hbl⟩ := R0.out.2.1 (by omega)
      have c0 : wr.cell? ⟨b, off + k, none⟩ = some (.int .i64 (F0 k 0)) := by
        have := (K.out.below.cell hbl).trans ((R0.out.2.2 k hlt 0 (by omega)).2 b off rfl)
        simpa using this
      have hwf := wfb (R0.out.2.2 k hlt 0 (by omega)).1
      have SC := Lib.hid (fun W => slot_c (F0 k 0) 50 hwf (by omega) (by omega) W)
      have hsr := slotv_range (F0 k 0) 50 (by omega)
      obtain ⟨n, hn⟩ : ∃ n : Nat, slotv (F0 k 0) 50 = (n : Int) := ⟨(slotv (F0 k 0) 50).toNat, by omega⟩
      rw [hn] at SC hsr
      have hn50 : n < 50 := by omega
      have MC := Lib.hid (K.out.make_c n hn50 (by omega) (by omega))
      obtain ⟨Z, hZ, hmk⟩ := made_row n hn50
      have HZ := Lib.hid hZ
      have htk := K.out.tk
      have htk0 : 0 ≤ q.tk := K.out.kept.ok.1
      have hne : ((q.tk + 1) != (q.tk + 1)) = false := bne_self_eq_false _
      clear R0 R1 hn hZ hwf hsr
      generalize F0 k 0 = y0 at *
      have HK := Lib.hid (show k + 1 ≤ 200 by omega)
      go_wp2_with (first
        | (go_at_call 14; refine (SC.out _).mono ?_; rintro e w3 ⟨rfl, rfl⟩)
        | (go_at_call 15; refine MC.out.mono ?_; rintro e w3 ⟨rfl, hd⟩; have AO := Lib.hid ((K.out.ad_.only hd.out.2 (fun b hb hf => (K.out.d1 b hf).1 (K.out.ad_.2 b hb))).1))
        | (have WO2 := WO; at_builtin; go_must (refine wpList_append_lies _ rfl (.tmp 73) (.tmp 76) 36 rfl 0 32 i1 _ 1 24 Try.underlying36 KI.out KZ0.out KZ1.out KZ2.out rfl (by omega) u9 k (heads k V) rfl ((WO.out.alloc _).alloc _) ⟨w4.heap.size + 1, 0, none⟩ 1 1 [.slice (some ⟨w4.heap.size, 0, none⟩) n n] rfl rfl (World.news_of_block (cs := #[.slice (some ⟨w4.heap.size, 0, none⟩) n n]) (t := 32) (fr := (0, 0)) (alloc2_new _ _ _)) (by simp [Value.oneCell']) (by omega) (by unfold maxLen; omega) (by omega) (Nat.zero_le _) (w4.heap.size + 2) (by simp) ?_); go_must (intro gg2 cap2 w6 hown hgrow hat hlt6; have e6 := Lib.hid hown; have g6 := Lib.hid hgrow; have t6 := Lib.hid hat; clear hown hgrow hat))
        | (at_builtin; go_must (refine wpList_append_lies _ rfl (.tmp 69) (.tmp 71) 32 rfl 0 3 i0 _ 1 8 Try.underlying32 HI.out HZ0.out HZ1.out HZ2.out rfl (by omega) u8 k (nums ((List.range k).map ad)) rfl (AO.out.alloc _) ⟨w3.heap.size, 0, none⟩ 1 1 [.int .i64 (q.tk + 1)] rfl rfl (World.news_of_block (cs := #[.int .i64 (q.tk + 1)]) (t := 3) (fr := (0, 0)) (heap_alloc_new _ _)) (by simp [Value.oneCell']) (by omega) (by unfold maxLen; omega) (by omega) (Nat.zero_le _) (w3.heap.size + 1) (by simp) ?_); go_must (intro gg cap' w4 hown hgrow hat hlt4; have e3 := Lib.hid hown; have g3 := Lib.hid hgrow; have t3 := Lib.hid hat; clear hown hgrow hat; have WO := Lib.hid ((((K.out.wt.row.only hd.out.2 (fun b hb hf => (K.out.d1 b hf).2 (K.out.wt.row.2 b hb))).alloc _).grown g3.out (K.out.wt.row.ne_type K.out.ad_ (by decide))).1))))
      go_roundw
      case rel =>
        refine ⟨k + 1, by omega, by go_num, ?_⟩
        exact ⟨_, _, _, _, _, _, _, by rw [make_of ⟨by omega, by omega⟩]; show _ = Value.int .i64 (q.tk + n + 1 + 1); congr 1; omega,
          K.out.round n hn50 (by omega) hd.out.1 hd.out.2 e3.out g3.out (t3.out.imp (fun h => h.symm) (fun h => ⟨gg, rfl, by omega⟩)) HZ.out e6.out g6.out (t6.out.imp (fun h => h.symm) (fun h => ⟨gg2, rfl, by omega⟩))⟩
      case measure => simp [intOf]; omega
    · obtain rfl : k = len0 := by omega
      obtain ⟨Aa, ca, hva, hca⟩ := K.out.ad_.shape
      obtain ⟨Aw, cw, hvw, hcw⟩ := K.out.wt.row.shape
      subst hva hvw
      have htk0 : 0 ≤ q.tk := K.out.kept.ok.1
      have htk1 := K.out.tk
      have E1 : Hid (Going2 w wr g k (.slice Aa k ca) (.slice Aw k cw) k q.tk ad V) := ⟨q, X, FH, FA, FW, rfl, K.out⟩
      generalize q.tk = tk at *
      have hmax := Lib.hid hk
      clear hk hlt K
      go_wp2_with fail
      go_loopw [14] (fun i wr => ∃ j : Nat, j ≤ len1 ∧ i = .int .i64 (j : Int) ∧ Hid (∃ c, c ≤ k + j ∧ Going2 w wr g c (.slice Aa k ca) (.slice Aw k cw) k tk ad V)) (fun i _ => len1 - (intOf i).toNat)
      case atStart => exact ⟨0, by omega, rfl, k, by omega, E1.out⟩
      case round =>
        obtain ⟨j, hj, rfl, HR⟩ := hrel
        clear E1
        by_cases hlt : j < len1 ∧ 0 < k
        · obtain ⟨hlt, hk0⟩ := hlt
          obtain ⟨c, hc, q, X, FH, FA, FW, hq, hKP⟩ := HR.out
          have K := Lib.hid hKP
          have HQ := Lib.hid hq
          clear hKP HR hq
          obtain ⟨ab, ca', hva, _, _, _⟩ := K.out.ad_.form hk0
          obtain ⟨wb, cw', hvw, _, _, _⟩ := K.out.wt.row.form hk0
          cases hva
          cases hvw
          obtain ⟨b, off, rfl, hbl⟩ := R1.out.2.1 (by omega)
          have p0 : wr.cell? ⟨b, off + j * 3, none⟩ = some (.int .i64 (F1 j 0)) := (K.out.below.cell hbl).trans ((R1.out.2.2 j hlt 0 (by omega)).2 b off rfl)
          have p1 : wr.cell? ⟨b, off + j * 3 + 1, none⟩ = some (.int .i64 (F1 j 1)) := (K.out.below.cell hbl).trans ((R1.out.2.2 j hlt 1 (by omega)).2 b off rfl)
          have p2 : wr.cell? ⟨b, off + j * 3 + 2, none⟩ = some (.int .i64 (F1 j 2)) := (K.out.below.cell hbl).trans ((R1.out.2.2 j hlt 2 (by omega)).2 b off rfl)
          have hw0 := wfb (R1.out.2.2 j hlt 0 (by omega)).1
          have hw1 := wfb (R1.out.2.2 j hlt 1 (by omega)).1
          have hw2 := wfb (R1.out.2.2 j hlt 2 (by omega)).1
          have hsr := slotv_range (F1 j 0) k (by omega)
          have SC1 := Lib.hid (fun W => slot_c (F1 j 0) k hw0 (by omega) (by omega) W)
          obtain ⟨bn, hbn⟩ : ∃ n : Nat, slotv (F1 j 0) k = (n : Int) := ⟨(slotv (F1 j 0) k).toNat, by omega⟩
          rw [hbn] at SC1 hsr
          have hb : bn < k := by omega
          have ca : wr.cell? ⟨ab, bn, none⟩ = some (.int .i64 (ad bn)) := K.out.ad_.cell (ads_get ad hb)
          have cv := K.out.wt.head_cell hb
          obtain ⟨Av, cvv, hV, _⟩ := (K.out.wt.rows bn hb).shape
          rw [hV] at cv
          have HV := Lib.hid hV
          have hm50 := K.out.lens bn hb
          have KS := Lib.hid (fun i => K.out.kept.has hb i)
          have hsr2 := slotv_range (F1 j 1) ((X bn).length + 2) (by omega)
          have SC2 := Lib.hid (fun W => slot_c (F1 j 1) ((X bn).length + 2) hw1 (by omega) (by omega) W)
          obtain ⟨s, hs⟩ : ∃ n : Nat, slotv (F1 j 1) ((X bn).length + 2) = (n : Int) := ⟨(slotv (F1 j 1) ((X bn).length + 2)).toNat, by omega⟩
          rw [hs] at SC2 hsr2
          obtain ⟨m, hm⟩ : ∃ m, m = (X bn).length := ⟨_, rfl⟩
          rw [← hm] at cv hm50 KS hsr2 SC2
          have HM := Lib.hid hm
          have hadr : i64in (ad bn) := by
            have h1 := K.out.kept.rng bn hb
            have h2 := K.out.tk
            exact ⟨by omega, by omega⟩
          have hsm : s < m + 2 := by omega
          have HC := Lib.hid hc
          have MC := Lib.hid (fun (y : Bool) (W : World) (hW : HeapAt W FH g c q) (hy : q.has (ad bn) ((s : Int) - 1) = y) => (set_c W FH g c q (ad bn) ((s : Int) - 1) (F1 j 2) hW K.out.kept.ok hadr hw2 (by omega)).mono (R' := fun e w' => e = .returned (.bool y) ∧ Hid (HeapAt w' FH g (c + 1) (q.set (ad bn) ((s : Int) - 1) (F1 j 2)) ∧ Only FH W w')) (fun e w' ⟨h1, h2, h3⟩ => ⟨by rw [h1, hy], h2, h3⟩))
          have S2 := Lib.hid (fun n => (SC2.out (wr.drewN n)).mono (R' := fun e w'' => e = .returned (.int .i64 (s : Int)) ∧ ∃ m, w'' = wr.drewN m) fun e w' ⟨a, b⟩ => ⟨a, n, b.symm⟩)
          clear hbn hV hs hm hsr hsr2 SC2 hadr hw0 hw1 hc R0
          try clear R1
          generalize F1 j 0 = y0 at *
          generalize F1 j 1 = y1 at *
          generalize F1 j 2 = y2 at *
          go_wp2_with (first | (go_at_call 14; refine (SC1.out _).mono ?_; rintro e w3 ⟨rfl, rfl⟩))
          go_quiet (exact S2.out _)
          go_wp2_with fail
          have HP1 : Hid (HeapAt (wr.drewN nq).drew FH g c q) := K.out.hp
          have NA : Hid (¬ FH ab) := fun h => (K.out.d1 ab h).1 (K.out.ad_.2 ab rfl)
          have NW : Hid (¬ FH wb) := fun h => (K.out.d1 wb h).2 (K.out.wt.row.2 wb rfl)
          have NB : Hid (¬ FH b) := fun h => by have := (K.out.bH b h).1; omega
          have hal : ab < wr.heap.size := K.out.ad_.lt rfl
          have hwl : wb < wr.heap.size := K.out.wt.row.lt rfl
          have hbl' : b < wr.heap.size := by have := K.out.below.size; omega
          by_cases hin : 1 ≤ s ∧ s ≤ m
          · obtain ⟨i, rfl⟩ : ∃ i, s = i + 1 := ⟨s - 1, by omega⟩
            have him : i < m := by omega
            have HY : Hid (q.has (ad bn) (i : Int) = true) := by rw [KS.out]; exact decide_eq_true (by omega)
            have hsi : (((i + 1 : Nat) : Int) - 1) = (i : Int) := by omega
            rw [hsi] at MC
            simp only [hsi]
            obtain ⟨nb, cvv', hVf, hFnb, hnbl, _⟩ := (K.out.wt.rows bn hb).form (by have := HM.out; omega)
            rw [HV.out] at hVf
            injection hVf with hVf1 hVf2 hVf3
            subst hVf1
            subst hVf3
            have hdi : decide ((i : Int) < (m : Int)) = true := decide_eq_true (by omega)
            have hii : (i : Int) < (m : Int) := by omega
            clear hin hsi hsm
            go_region_held3 (fun w' => w'.cell? ⟨ab, bn, none⟩ = some (.int .i64 (ad bn)) ∧ w'.cell? ⟨b, off + j * 3 + 2, none⟩ = some (.int .i64 y2))
              (first | (go_keep; done) | (go_split_ands; exact ⟨e1, e2⟩))
              ((go_at_call 16; refine (MC.out true _ HP1.out HY.out).mono ?_; rintro e w3 ⟨rfl, hd⟩; have HO := Lib.hid (show Only FH wr w3 from ⟨hd.out.2.os, hd.out.2.tape, hd.out.2.output, hd.out.2.size, hd.out.2.block⟩); have e1 : w3.cell? ⟨ab, bn, none⟩ = some (.int .i64 (ad bn)) := (HO.out.cell hal NA.out).trans ca; have e2 : w3.cell? ⟨b, off + j * 3 + 2, none⟩ = some (.int .i64 y2) := (HO.out.cell hbl' NB.out).trans p2; have e3 : w3.cell? ⟨wb, bn, none⟩ = some (.slice (some ⟨nb, 0, none⟩) m cvv) := (HO.out.cell hwl NW.out).trans cv))
            have W3 : Hid (LL w3 FW 32 (.slice (some ⟨wb, 0, none⟩) k cw) k V X) := K.out.wt.only HO.out (fun b _ hf hh => (K.out.d1 b hh).2 hf)
            have FR : w3.frozen? ⟨nb, i, none⟩ = false := by
              have := W3.out.rows bn hb
              rw [HV.out] at this
              exact this.frozen i
            go_wp2_with fail
            have e4 : w3.cell? ⟨nb, i, none⟩ = some (.int .i64 ((X bn).getD i 0)) := W3.out.num_cell hb (by rw [HV.out]) (by have := HM.out; omega)
            generalize (X bn).getD i 0 = ox at e4
            clear ca cv p0 p1 p2 e1
            go_region
            all_goals go_wp2_with fail
            have K4 := Lib.hid ((K.out.put (i := i) (nb := nb) (cap := cvv) hb (by have := HM.out; omega) y2 HV.out (by have := hd.out.1; exact this) HO.out).quiet ((Only.refl (fun _ => False) _).drew))
            go_roundw
            case rel => exact ⟨j + 1, by omega, by go_num, c + 1, by have := HC.out; omega, _, _, FH, FA, FW, (qset_tk _ _ _ _).trans HQ.out, K4.out⟩
            case measure => simp [intOf]; omega
          · have HY : Hid (q.has (ad bn) ((s : Int) - 1) = false) := by rw [KS.out]; exact decide_eq_false (by omega)
            have hq : s = 0 ∨ s = m + 1 := by omega
            go_region_held3 (fun w' => w'.cell? ⟨ab, bn, none⟩ = some (.int .i64 (ad bn)) ∧ w'.cell? ⟨b, off + j * 3 + 2, none⟩ = some (.int .i64 y2))
              (first | (go_keep; done) | (go_split_ands; exact ⟨e1, e2⟩))
              ((go_at_call 16; refine (MC.out false _ HP1.out HY.out).mono ?_; rintro e w3 ⟨rfl, hd⟩; have HO := Lib.hid (show Only FH wr w3 from ⟨hd.out.2.os, hd.out.2.tape, hd.out.2.output, hd.out.2.size, hd.out.2.block⟩); have e1 : w3.cell? ⟨ab, bn, none⟩ = some (.int .i64 (ad bn)) := (HO.out.cell hal NA.out).trans ca; have e2 : w3.cell? ⟨b, off + j * 3 + 2, none⟩ = some (.int .i64 y2) := (HO.out.cell hbl' NB.out).trans p2; have e3 : w3.cell? ⟨wb, bn, none⟩ = some (.slice Av m cvv) := (HO.out.cell hwl NW.out).trans cv))
            have HS : Hid (q.set (ad bn) ((s : Int) - 1) y2 = q) := by rw [QH.set, HY.out]; rfl
            have K3 := Lib.hid (K.out.still (by have := hd.out.1; rw [HS.out] at this; exact this) HO.out)
            clear hin
            rcases hq with rfl | rfl
            all_goals
              go_wp2_with fail
              go_roundw
              case rel => exact ⟨j + 1, by omega, by go_num, c + 1, by have := HC.out; omega, q, X, FH, FA, FW, HQ.out, K3.out⟩
              case measure => first | (simp [intOf]; done) | (simp [intOf]; omega)
        · obtain ⟨c, hc, q, X, FH, FA, FW, hq, hKP⟩ := HR.out
          have K := Lib.hid hKP
          have HQ := Lib.hid hq
          have hor : (¬ j < len1) ∨ (j < len1 ∧ k = 0) := by omega
          have EB := Lib.hid hKP.below
          have WC := Lib.hid (words_c wr FH g c q hKP.hp)
          rw [hq] at WC
          have ht1 : (tk == tk) = true := beq_self_eq_true _
          have ht2 : (tk == tk + 1 - 1) = true := beq_iff_eq.2 (by omega)
          clear hKP HR hq R0 R1 hc hj hlt
          rcases hor with hor | ⟨hor, hor2⟩
          · go_wp2_with fail
            go_loop [19] (fun i => ∃ j : Nat, j ≤ k ∧ i = .int .i64 (j : Int)) (fun i => k - (intOf i).toNat)
            case atStart => exact ⟨0, by omega, rfl⟩
            case round =>
              obtain ⟨jj, hjj, rfl⟩ := hrel
              by_cases hjk : jj < k
              · obtain ⟨ab, ca', hva, _, _, _⟩ := K.out.ad_.form (by omega)
                obtain ⟨wb, cw', hvw, _, _, _⟩ := K.out.wt.row.form (by omega)
                cases hva
                cases hvw
                have ca : wr.cell? ⟨ab, jj, none⟩ = some (.int .i64 (ad jj)) := K.out.ad_.cell (ads_get ad hjk)
                have cv := K.out.wt.head_cell hjk
                obtain ⟨Av, cvv, hV, _⟩ := (K.out.wt.rows jj hjk).shape
                rw [hV] at cv
                have HV := Lib.hid hV
                have hm50 := K.out.lens jj hjk
                have hadr : 1 ≤ ad jj ∧ ad jj ≤ 20000 := by
                  have h1 := K.out.kept.rng jj hjk
                  have h2 := K.out.tk
                  exact ⟨by omega, by omega⟩
                obtain ⟨ha1, ha2⟩ := hadr
                have hsz := K.out.kept.sz jj hjk
                have LC := Lib.hid ((len_c wr FH g c q (ad jj) K.out.hp ⟨by omega, by omega⟩).mono (R' := fun e w' => e = .returned (.tuple #[.int .i64 ((X jj).length : Int), .bool true]) ∧ wr = w') (fun e w' ⟨h1, h2⟩ => ⟨by rw [h1, QH.lenA, QH.lenB, if_neg (by omega), if_neg (by omega), hsz]; rfl, h2⟩))
                have IC := Lib.hid (fun (t : Nat) (h1 : 1 ≤ t) (h2 : t ≤ (X jj).length) => (len_c wr FH g c q (ad jj + (t : Int)) K.out.hp ⟨by omega, by omega⟩).mono (R' := fun e w' => e = .returned (.tuple #[.int .i64 0, .bool false]) ∧ wr = w') (fun e w' ⟨h3, h4⟩ => ⟨by rw [h3, QH.lenA, QH.lenB, if_neg (by omega), if_neg (by omega), K.out.kept.inner hjk t (by omega) (by omega)]; rfl, h4⟩))
                have GN := Lib.hid (fun (i : Int) (hi : ¬ (0 ≤ i ∧ i < (X jj).length)) => (get_c wr FH g c q (ad jj) i K.out.hp K.out.kept.ok ⟨by omega, by omega⟩).mono (R' := fun e w' => e = .returned (.tuple #[.int .i64 0, .bool false]) ∧ wr = w') (fun e w' ⟨h3, h4⟩ => ⟨by rw [h3, QH.getA, K.out.kept.has hjk, decide_eq_false hi]; rfl, h4⟩))
                have GY := Lib.hid (fun (i : Nat) (hi : i < (X jj).length) => (get_c wr FH g c q (ad jj) (i : Int) K.out.hp K.out.kept.ok ⟨by omega, by omega⟩).mono (R' := fun e w' => e = .returned (.tuple #[.int .i64 ((X jj).getD i 0), .bool true]) ∧ wr = w') (fun e w' ⟨h3, h4⟩ => ⟨by rw [h3, QH.getA, K.out.kept.has hjk, decide_eq_true ⟨by omega, by omega⟩, if_pos rfl, K.out.kept.wd jj hjk i hi], h4⟩))
                have NC := Lib.hid (fun (i : Nat) (hi : i < (X jj).length) => show ∃ nb, Av = some ⟨nb, 0, none⟩ ∧ wr.cell? ⟨nb, i, none⟩ = some (.int .i64 ((X jj).getD i 0)) from by
                  obtain ⟨nb, cx, hx, _⟩ := (K.out.wt.rows jj hjk).form (by omega)
                  rw [HV.out] at hx
                  injection hx with hx1 hx2 hx3
                  subst hx1
                  exact ⟨nb, rfl, K.out.wt.num_cell hjk HV.out hi⟩)
                clear hV hsz K WC EB
                generalize (X jj).length = m at *
                have hmm : ((m : Int) != (m : Int)) = false := bne_self_eq_false _
                go_wp2_with (first | (go_at_call 17; refine LC.out.mono ?_; rintro e w3 ⟨rfl, rfl⟩))
                go_loop [22] (fun v => ∃ t : Nat, t ≤ m + 2 ∧ v = .int .i64 ((t : Int) - 1)) (fun v => ((m : Int) + 1 - intOf v).toNat)
                case atStart => exact ⟨0, by omega, rfl⟩
                case round =>
                  obtain ⟨t, ht, rfl⟩ := hrel
                  by_cases htm : t = m + 2
                  · subst htm
                    have e : (((m + 2 : Nat) : Int) - 1) = (m : Int) + 1 := by omega
                    rw [e]
                    have hd : decide ((m : Int) + 1 ≤ (m : Int)) = false := decide_eq_false (by omega)
                    clear e ht LC GN GY NC
                    go_wp2_with fail
                    go_loop [26] (fun v => ∃ t : Nat, 1 ≤ t ∧ t ≤ m + 1 ∧ v = .int .i64 (t : Int)) (fun v => ((m : Int) + 1 - intOf v).toNat)
                    case atStart => exact ⟨1, by omega, by omega, rfl⟩
                    case round =>
                      obtain ⟨t, ht0, ht, rfl⟩ := hrel
                      by_cases htm : t ≤ m
                      · have I := Lib.hid (IC.out t ht0 htm)
                        clear IC
                        go_wp2_with (first | (go_at_call 17; refine I.out.mono ?_; rintro e w3 ⟨rfl, rfl⟩))
                        go_round
                        case rel => exact ⟨t + 1, by omega, by omega, by go_num⟩
                        case measure => first | (simp [intOf]; done) | (simp [intOf]; omega)
                      · clear IC
                        go_wp2_with fail
                        go_round
                        case rel => exact ⟨jj + 1, by omega, by go_num⟩
                        case measure => first | (simp [intOf]; done) | (simp [intOf]; omega)
                  · clear LC IC
                    rcases (show t = 0 ∨ t = m + 1 ∨ (1 ≤ t ∧ t ≤ m) by omega) with rfl | rfl | ⟨h1, h2⟩
                    · have G := Lib.hid (GN.out (-1) (by omega))
                      clear GN GY NC
                      have e : (((0 : Nat) : Int) - 1) = -1 := rfl
                      rw [e]
                      have hd : decide ((-1 : Int) ≤ (m : Int)) = true := decide_eq_true (by omega)
                      go_wp2_with (first | (go_at_call 18; refine G.out.mono ?_; rintro e w3 ⟨rfl, rfl⟩))
                      go_round
                      case rel => exact ⟨1, by omega, by go_num⟩
                      case measure => first | (simp [intOf]; done) | (simp [intOf]; omega)
                    · have G := Lib.hid (GN.out (m : Int) (by omega))
                      clear GN GY NC
                      have e : (((m + 1 : Nat) : Int) - 1) = (m : Int) := by omega
                      rw [e]
                      have hd : decide ((m : Int) < (m : Int)) = false := decide_eq_false (by omega)
                      go_wp2_with (first | (go_at_call 18; refine G.out.mono ?_; rintro e w3 ⟨rfl, rfl⟩))
                      go_round
                      case rel => exact ⟨m + 2, by omega, by go_num⟩
                      case measure => first | (simp [intOf]; done) | (simp [intOf]; omega)
                    · obtain ⟨i, rfl⟩ : ∃ i, t = i + 1 := ⟨t - 1, by omega⟩
                      have G := Lib.hid (GY.out i (by omega))
                      obtain ⟨nb, rfl, cn⟩ := NC.out i (by omega)
                      clear GN GY NC h1 ht htm
                      have e : (((i + 1 : Nat) : Int) - 1) = (i : Int) := by omega
                      rw [e]
                      have hd : decide ((i : Int) ≤ (m : Int)) = true := decide_eq_true (by omega)
                      have hd2 : decide ((i : Int) < (m : Int)) = true := decide_eq_true (by omega)
                      have hd3 : (i : Int) ≤ m := by omega
                      have hd4 : (i : Int) < m := by omega
                      generalize (X jj).getD i 0 = y at *
                      have hyy : (y != y) = false := bne_self_eq_false _
                      go_wp2_with (first | (go_at_call 18; refine G.out.mono ?_; rintro e w3 ⟨rfl, rfl⟩))
                      go_round
                      case rel => exact ⟨i + 2, by omega, by go_num⟩
                      case measure => first | (simp [intOf]; done) | (simp [intOf]; omega)
              · clear K
                go_wp2_with (first | (go_at_call 19; refine WC.out.mono ?_; rintro e w3 ⟨rfl, rfl⟩))
                go_ret
                exact ⟨rfl, EB.out⟩
          · go_wp2_with fail
            go_loop [19] (fun i => ∃ j : Nat, j ≤ k ∧ i = .int .i64 (j : Int)) (fun i => k - (intOf i).toNat)
            case atStart => exact ⟨0, by omega, rfl⟩
            case round =>
              obtain ⟨jj, hjj, rfl⟩ := hrel
              have hjk : ¬ jj < k := by omega
              clear K
              go_wp2_with (first | (go_at_call 19; refine WC.out.mono ?_; rintro e w3 ⟨rfl, rfl⟩))
              go_ret
              exact ⟨rfl, EB.out⟩
end Go.Proofs.Ytoakmifihofpeaa
