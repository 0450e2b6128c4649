/- the document's Check: the walk. -/
import Derived.Test.YtkjfbojmkkdgoaaA12
import Derived.Deep.RegionHeld3
import Derived.BigQuiet
set_option linter.unusedVariables false
set_option linter.unusedSimpArgs false
namespace Go.Proofs.Ytkjfbojmkkdgoaa
open Go.RowKit
attribute [local go_sem ↓] Go.wp_at_zero Go.wp_at_succ
/-- What stands through the document's Check. -/
structure DS (w wr : World) (G : Nat → Prop) (A : Option Addr) (ni : Nat) (X : Nat → Ins) (B : Option Addr) (nf : Nat) (Fs : Nat → Fn) (cc : Array Value) : Prop where
  b1 : Blk wr w.heap.size 25 cc
  il : IL wr G A ni X
  fl : FL wr G B nf Fs
  below : Below w.heap.size w wr
section
variable {w wr w2 : World} {G : Nat → Prop} {A B : Option Addr} {ni nf : Nat} {X : Nat → Ins} {Fs : Nat → Fn} {cc : Array Value}
theorem DS.only (h : DS w wr G A ni X B nf Fs cc) (o : Only (fun _ => False) wr w2) : DS w w2 G A ni X B nf Fs cc :=
  ⟨h.b1.only o (fun h => h), h.il.only o (fun _ _ _ h => h), h.fl.only o (fun _ _ _ h => h), h.below.trans (o.toBelow h.below.size (fun _ _ h => h))⟩
theorem DS.start (hi : IL w G A ni X) (hf : FL w G B nf Fs) (cc : Array Value) : DS w (w.alloc (.cells cc 25)) G A ni X B nf Fs cc :=
  ⟨Blk.new w 25 cc, hi.only ((Only.refl (fun _ => False) w).alloc _) (fun _ _ _ h => h), hf.only ((Only.refl (fun _ => False) w).alloc _) (fun _ _ _ h => h), ba (Below.refl _ _) _⟩
end
set_option maxRecDepth 100000 in
set_option maxHeartbeats 16000000 in
theorem dcheck_c (w : World) (G : Nat → Prop) (A : Option Addr) (ni ci : Nat) (X : Nat → Ins) (B : Option Addr) (nf cf : Nat) (Fs : Nat → Fn) (m : Int) (hi : IL w G A ni X) (hci : ni ≤ ci) (hf : FL w G B nf Fs) (hcf : nf ≤ cf) (hm : i64in m) (hnf : nf ≤ 1000000) :
    Calls Try.prog 13 #[codeV A ni ci B nf cf m] w (CheckPost ni X nf Fs m w) := by
  have BAD := Lib.hid (fun (hn : ¬ CodeOk ni X nf Fs m) (w' : World) (hw : Below w.heap.size w w') => show CheckPost ni X nf Fs m w (.returned (.int .i64 210)) w' from ⟨210, rfl, .inr ⟨rfl, hn⟩, hw⟩)
  have GOOD := Lib.hid (fun (hr : CodeOk ni X nf Fs m) (w' : World) (hw : Below w.heap.size w w') => show CheckPost ni X nf Fs m w (.returned (.int .i64 0)) w' from ⟨0, rfl, .inl ⟨rfl, hr⟩, hw⟩)
  have S0 := Lib.hid (DS.start hi hf #[.slice A ni ci, .slice B nf cf, .int .i64 m])
  have hni := hi.1
  obtain ⟨m1, m2⟩ := hm
  clear hi hf
  unfold codeV
  go_enter Try.func13, Try.ntmps13
  go_wp2_with fail
  go_loopw [3, 4] (fun nx kv wx => ∃ k : Nat, k ≤ nf ∧ kv = .int .i64 (k : Int) ∧ nx = .int .i64 (firstOf Fs k) ∧ 0 ≤ firstOf Fs k ∧ firstOf Fs k ≤ (ni : Int) ∧ Hid (DS w wx G A ni X B nf Fs #[.slice A ni ci, .slice B nf cf, .int .i64 m]) ∧ Hid (∀ j, j < k → OneOk ni X nf Fs j)) (fun _ kv _ => nf - (intOf kv).toNat)
  case atStart => exact ⟨0, by omega, rfl, rfl, by show (0 : Int) ≤ 0; omega, by show (0 : Int) ≤ _; omega, S0, fun j hj => absurd hj (Nat.not_lt_zero _)⟩
  case round =>
    clear S0
    obtain ⟨k, hk, rfl, rfl, hn0, hn1, S, HK⟩ := hrel
    have cA : wr.cell? ⟨w.heap.size, 0, none⟩ = some (.slice A ni ci) := S.out.b1.cell 0
    have cB : wr.cell? ⟨w.heap.size, 1, none⟩ = some (.slice B nf cf) := S.out.b1.cell 1
    have cM : wr.cell? ⟨w.heap.size, 2, none⟩ = some (.int .i64 m) := S.out.b1.cell 2
    have hlb := S.out.b1.lt
    by_cases hlt : k < nf
    · obtain ⟨hin, hsz, b, off, rfl, _, hbl, k0, k1, k2, k3, k4⟩ := S.out.fl.2 k hlt
      have BADK := Lib.hid (fun (hn : ¬ OneOk ni X nf Fs k) (w' : World) (hw : Below w.heap.size w w') => BAD.out (fun h => hn (h.1 k hlt)) w' hw)
      have HKK := Lib.hid (fun (hy : OneOk ni X nf Fs k) => show ∀ j, j < k + 1 → OneOk ni X nf Fs j from fun j hj => by
        by_cases he : j = k
        · rw [he]; exact hy
        · exact HK.out j (by omega))
      have S3 := Lib.hid (S.out.only ((Only.refl (fun _ => False) wr).alloc (.cells #[.string (Fs k).name, .int .i64 (Fs k).frame, .int .i64 (Fs k).first, .int .i64 (Fs k).count, .int .i64 (Fs k).params] 61)))
      obtain ⟨⟨r1, r2⟩, ⟨i1, i2⟩, ⟨i3, i4⟩, ⟨r5, r6⟩⟩ := id hin
      by_cases hf1 : (Fs k).first = firstOf Fs k
      · have hf2 : ((Fs k).first != firstOf Fs k) = false := by simp [hf1]
        have HF1 := Lib.hid hf1
        clear hf1
        rcases (show ((Fs k).count < 1 ∨ (1 ≤ (Fs k).count ∧ (ni : Int) - firstOf Fs k < (Fs k).count)) ∨ ((1 ≤ (Fs k).count ∧ (Fs k).count ≤ (ni : Int) - firstOf Fs k) ∧ ((Fs k).frame < 2 ∨ (2 ≤ (Fs k).frame ∧ 1099511627776 < (Fs k).frame) ∨ (2 ≤ (Fs k).frame ∧ (Fs k).frame ≤ 1099511627776 ∧ (Fs k).params < 0) ∨ (2 ≤ (Fs k).frame ∧ (Fs k).frame ≤ 1099511627776 ∧ 0 ≤ (Fs k).params ∧ 8 < (Fs k).params))) ∨ (1 ≤ (Fs k).count ∧ (Fs k).count ≤ (ni : Int) - firstOf Fs k ∧ 2 ≤ (Fs k).frame ∧ (Fs k).frame ≤ 1099511627776 ∧ 0 ≤ (Fs k).params ∧ (Fs k).params ≤ 8) by omega) with g | ⟨⟨g1, g2⟩, g⟩ | ⟨g1, g2, g3, g4, g5, g6⟩
        · have E := Lib.hid (BADK.out (fun h => by have := h.2.1; have := h.2.2.1; omega) _ S3.out.below)
          clear BAD GOOD BADK HKK HK
          rcases g with g | ⟨g1, g2⟩
          all_goals go_wp2_with fail
          all_goals go_ret
          all_goals exact E.out
        · have E := Lib.hid (BADK.out (fun h => by have h5 := h.2.2.2.2; have := h5.2.1; have := h5.2.2.1; have := h5.2.2.2.1; have := h5.2.2.2.2.1; omega) _ S3.out.below)
          clear BAD GOOD BADK HKK HK
          rcases g with g | ⟨g3, g4⟩ | ⟨g3, g4, g5⟩ | ⟨g3, g4, g5, g6⟩
          all_goals go_wp2_with fail
          all_goals go_ret
          all_goals exact E.out
        · have hlr := S.out.b1.lt
          have NC := Lib.hid (fun w' => dname_c (Fs k).name hsz w')
          have BF := Lib.hid (Blk.new wr 61 #[.string (Fs k).name, .int .i64 (Fs k).frame, .int .i64 (Fs k).first, .int .i64 (Fs k).count, .int .i64 (Fs k).params])
          have hszl : (wr.alloc (.cells #[.string (Fs k).name, .int .i64 (Fs k).frame, .int .i64 (Fs k).first, .int .i64 (Fs k).count, .int .i64 (Fs k).params] 61)).heap.size = wr.heap.size + 1 := by simp
          have HSZL := Lib.hid hszl
          clear hszl BAD GOOD HK
          go_wp2_with fail
          refine (NC.out _).mono ?_
          rintro e w4 ⟨r, rfl, hr, hb⟩
          have HR := Lib.hid hr
          have S4 := Lib.hid (S3.out.only (Only.ofBelow hb))
          have B4 := Lib.hid (BF.out.below hb (by rw [HSZL.out]; omega))
          clear hr hb NC BF S3 S
          cases r with
          | false =>
            have E := Lib.hid (BADK.out (fun h => by have := HR.out.2 h.2.2.2.2.1; cases this) _ S4.out.below)
            clear BADK HKK
            go_wp2_with fail
            go_ret
            exact E.out
          | true =>
            have HN := Lib.hid (HR.out.1 rfl)
            clear HR
            clear k0 k1 k2 k3 k4 cA cB cM
            go_wp2_with fail
            obtain ⟨wo, rfl⟩ : ∃ x, x = wr := ⟨_, rfl⟩
            go_loopw [7] (fun jv wx => ∃ j : Nat, j ≤ k ∧ jv = .int .i64 (j : Int) ∧ Hid (DS w wx G A ni X (some ⟨b, off, none⟩) nf Fs #[.slice A ni ci, .slice (some ⟨b, off, none⟩) nf cf, .int .i64 m]) ∧ Hid (Blk wx wo.heap.size 61 #[.string (Fs k).name, .int .i64 (Fs k).frame, .int .i64 (Fs k).first, .int .i64 (Fs k).count, .int .i64 (Fs k).params]) ∧ Hid (∀ t, t < j → (Fs t).name ≠ (Fs k).name)) (fun jv _ => k - (intOf jv).toNat)
            case atStart => exact ⟨0, by omega, rfl, S4, B4, fun j hj => absurd hj (Nat.not_lt_zero _)⟩
            case round =>
              clear S4 B4
              obtain ⟨j, hj, rfl, S5, B5, HJ⟩ := hrel
              have hl5 := S5.out.b1.lt
              have hl6 := B5.out.lt
              by_cases hjk : j < k
              · obtain ⟨_, hszj, b', off', ee, _, hbl5, j0, _⟩ := S5.out.fl.2 j (by omega)
                injection ee with ee
                injection ee with e1 e2 _
                subst e1 e2
                have cB : wr.cell? ⟨w.heap.size, 1, none⟩ = some (.slice (some ⟨b, off, none⟩) nf cf) := S5.out.b1.cell 1
                have n0 : wr.cell? ⟨wo.heap.size, 0, none⟩ = some (.string (Fs k).name) := B5.out.cell 0
                cases hq : ((Fs j).name.toList == (Fs k).name.toList) with
                | true =>
                  have E := Lib.hid (fun (w' : World) hw => BADK.out (fun h => h.2.2.2.1 j hjk (by rw [beq_iff_eq, ByteArray.toList_eq, ByteArray.toList_eq] at hq; exact name_eq.2 hq)) w' hw)
                  clear BADK HKK HJ
                  go_wp2_with fail
                  go_quiet (fail)
                  go_wp2_with fail
                  go_ret
                  exact E.out _ (S5.out.only ((Only.refl (fun _ => False) _).drewN _)).below
                | false =>
                  have HJ2 : Hid (∀ t, t < j + 1 → (Fs t).name ≠ (Fs k).name) := fun t ht => by
                    by_cases he : t = j
                    · rw [he]; intro hh; rw [hh] at hq; simp at hq
                    · exact HJ.out t (by omega)
                  have S6 := Lib.hid (fun n => S5.out.only ((Only.refl (fun _ => False) _).drewN n))
                  have B6 := Lib.hid (fun n => B5.out.drewN n)
                  clear BADK HKK HJ
                  go_wp2_with fail
                  go_quiet (fail)
                  go_wp2_with fail
                  go_roundw
                  case rel => exact ⟨j + 1, by omega, by go_num, S6.out _, B6.out _, HJ2⟩
                  case measure => first | (simp [intOf]; done) | (simp [intOf]; omega)
              · have hjk' : j = k := by omega
                subst hjk'
                obtain ⟨fi, hfi⟩ := Int.eq_ofNat_of_zero_le hn0
                obtain ⟨cn, hco⟩ := Int.eq_ofNat_of_zero_le (show 0 ≤ (Fs j).count by omega)
                have hfr : (Fs j).first = (fi : Int) := by rw [HF1.out, hfi]
                have hcn1 : 1 ≤ cn := by omega
                have hle : fi + cn ≤ ni := by omega
                obtain ⟨_, b2, off2, rfl, _⟩ := S5.out.il.2 fi (by omega)
                have q2 : wr.cell? ⟨wo.heap.size, 2, none⟩ = some (.int .i64 (fi : Int)) := (B5.out.cell 2).trans (by rw [hfr]; rfl)
                have q3 : wr.cell? ⟨wo.heap.size, 3, none⟩ = some (.int .i64 (cn : Int)) := (B5.out.cell 3).trans (by rw [hco]; rfl)
                have BADF := Lib.hid (fun (hn : ¬ FnOk nf X (Fs j) fi cn) (w' : World) (hw : Below w.heap.size w w') => BADK.out (fun h => hn (by have := h.2.2.2.2; rw [hfi, hco, Int.toNat_natCast, Int.toNat_natCast] at this; exact this)) w' hw)
                have HKF := Lib.hid (fun (hy : FnOk nf X (Fs j) fi cn) => HKK.out ⟨HF1.out, g1, g2, HJ.out, by rw [hfi, hco, Int.toNat_natCast, Int.toNat_natCast]; exact hy⟩)
                have NC := Lib.hid (fun (x : Ins) (hx : InsIn x) w' => dinstr_c (some ⟨b2, off2, none⟩) ni ci (some ⟨b, off, none⟩) nf cf m (Fs j) hin (by omega) g3 (by omega) (by omega) x hx (by omega) w')
                have HFI := Lib.hid hfi
                have HCO := Lib.hid hco
                rw [hfi] at hn0 hn1 g2
                clear BADK HKK HJ HF1
                simp only [hfi, hco, hfr]
                rw [hfr] at i1 i2
                rw [hco] at i3 i4
                rw [hco] at g1 g2
                go_wp2_with fail
                have HN' := Lib.hid (show NameOk (Fs j).name from HN.out)
                clear q2 q3 HN
                obtain ⟨wp, hwp⟩ : ∃ x, x = wr := ⟨_, rfl⟩
                go_loopw [8] (fun jv wx => ∃ t : Nat, t ≤ cn ∧ jv = .int .i64 ((fi : Int) + (t : Int)) ∧ Hid (DS w wx G (some ⟨b2, off2, none⟩) ni X (some ⟨b, off, none⟩) nf Fs #[.slice (some ⟨b2, off2, none⟩) ni ci, .slice (some ⟨b, off, none⟩) nf cf, .int .i64 m]) ∧ Hid (Blk wx wo.heap.size 61 #[.string (Fs j).name, .int .i64 (Fs j).frame, .int .i64 (Fs j).first, .int .i64 (Fs j).count, .int .i64 (Fs j).params]) ∧ Hid (∀ i, i < t → insOk nf (Fs j) (X (fi + i)) = true)) (fun jv _ => fi + cn - (intOf jv).toNat)
                case atStart => exact ⟨0, by omega, by simp, S5, B5, fun j hj => absurd hj (Nat.not_lt_zero _)⟩
                case round =>
                  clear S5 B5 hwp
                  obtain ⟨t, ht, rfl, S6, B6, HT⟩ := hrel
                  have l1 := S6.out.b1.lt
                  have l2 := B6.out.lt
                  by_cases htc : t < cn
                  · obtain ⟨hxin, b3, off3, ee, _, hbl6, x0, x1, x2, x3, x4⟩ := S6.out.il.2 (fi + t) (by omega)
                    injection ee with ee
                    injection ee with e1 e2 _
                    subst e1 e2
                    have c0 : wr.cell? ⟨w.heap.size, 0, none⟩ = some (.slice (some ⟨b2, off2, none⟩) ni ci) := S6.out.b1.cell 0
                    have c1 : wr.cell? ⟨w.heap.size, 1, none⟩ = some (.slice (some ⟨b, off, none⟩) nf cf) := S6.out.b1.cell 1
                    have c2 : wr.cell? ⟨w.heap.size, 2, none⟩ = some (.int .i64 m) := S6.out.b1.cell 2
                    have f0 : wr.cell? ⟨wo.heap.size, 0, none⟩ = some (.string (Fs j).name) := B6.out.cell 0
                    have f1 : wr.cell? ⟨wo.heap.size, 1, none⟩ = some (.int .i64 (Fs j).frame) := B6.out.cell 1
                    have f2 : wr.cell? ⟨wo.heap.size, 2, none⟩ = some (.int .i64 (Fs j).first) := B6.out.cell 2
                    have f3 : wr.cell? ⟨wo.heap.size, 3, none⟩ = some (.int .i64 (Fs j).count) := B6.out.cell 3
                    have f4 : wr.cell? ⟨wo.heap.size, 4, none⟩ = some (.int .i64 (Fs j).params) := B6.out.cell 4
                    have BADT := Lib.hid (fun (hn : insOk nf (Fs j) (X (fi + t)) = false) (w' : World) (hw : Below w.heap.size w w') => BADF.out (fun h => by have := h.2.2.2.2.2.1 t htc; rw [hn] at this; cases this) w' hw)
                    have HTT := Lib.hid (fun (hy : insOk nf (Fs j) (X (fi + t)) = true) => show ∀ i, i < t + 1 → insOk nf (Fs j) (X (fi + i)) = true from fun i hi => by
                      by_cases he : i = t
                      · rw [he]; exact hy
                      · exact HT.out i (by omega))
                    have NX := Lib.hid (NC.out (X (fi + t)) hxin)
                    unfold codeV fnV insV at NX
                    clear HT NC hxin
                    generalize X (fi + t) = x at *
                    have HX1 : Hid ((0 : Int) ≤ (fi : Int) + (t : Int)) := by show _ ≤ _; omega
                    have HX2 : Hid ((fi : Int) + (t : Int) < (ni : Int)) := by show _ < _; omega
                    clear hfi hco hfr
                    have htn : ((fi : Int) + (t : Int)).toNat = fi + t := by omega
                    have hlt2 : decide ((fi : Int) + (t : Int) < (fi : Int) + (cn : Int)) = true := decide_eq_true (by omega)
                    go_wp2_with fail
                    have hx1 := HX1.out
                    have hx2 := HX2.out
                    go_region_held3 (fun w' => w'.cell? ⟨w.heap.size, 0, none⟩ = some (.slice (some ⟨b2, off2, none⟩) ni ci) ∧ w'.cell? ⟨w.heap.size, 1, none⟩ = some (.slice (some ⟨b, off, none⟩) nf cf) ∧ w'.cell? ⟨w.heap.size, 2, none⟩ = some (.int .i64 m) ∧ w'.cell? ⟨wo.heap.size, 0, none⟩ = some (.string (Fs j).name) ∧ w'.cell? ⟨wo.heap.size, 1, none⟩ = some (.int .i64 (Fs j).frame) ∧ w'.cell? ⟨wo.heap.size, 2, none⟩ = some (.int .i64 (Fs j).first) ∧ w'.cell? ⟨wo.heap.size, 3, none⟩ = some (.int .i64 (Fs j).count) ∧ w'.cell? ⟨wo.heap.size, 4, none⟩ = some (.int .i64 (Fs j).params) ∧ w'.cell? ⟨b2, off2 + (fi + t) * 5, none⟩ = some (.int .i64 x.op) ∧ w'.cell? ⟨b2, off2 + (fi + t) * 5 + 1, none⟩ = some (.int .i64 x.a) ∧ w'.cell? ⟨b2, off2 + (fi + t) * 5 + 2, none⟩ = some (.int .i64 x.b) ∧ w'.cell? ⟨b2, off2 + (fi + t) * 5 + 3, none⟩ = some (.int .i64 x.c) ∧ w'.cell? ⟨b2, off2 + (fi + t) * 5 + 4, none⟩ = some (.int .i64 x.n))
                      (first | (go_keep; done) | (exact ⟨(HO.out.cell l1 id).trans c0, (HO.out.cell l1 id).trans c1, (HO.out.cell l1 id).trans c2, (HO.out.cell l2 id).trans f0, (HO.out.cell l2 id).trans f1, (HO.out.cell l2 id).trans f2, (HO.out.cell l2 id).trans f3, (HO.out.cell l2 id).trans f4, (HO.out.cell hbl6 id).trans x0, (HO.out.cell hbl6 id).trans x1, (HO.out.cell hbl6 id).trans x2, (HO.out.cell hbl6 id).trans x3, (HO.out.cell hbl6 id).trans x4⟩))
                      ((go_at_call 29; refine (NX.out _).mono ?_; rintro e w3 ⟨rfl, hb⟩; have HO := Lib.hid (show Only (fun _ => False) wr w3 from ⟨hb.os, hb.tape, hb.output, hb.size, fun k hk _ => hb.block k hk⟩); clear hb))
                    have S7 := Lib.hid (S6.out.only HO.out)
                    have B7 := Lib.hid (B6.out.only HO.out id)
                    clear c0 c1 c2 f0 f1 f2 f3 f4 x0 x1 x2 x3 x4
                    cases hok : insOk nf (Fs j) x with
                    | false =>
                      have E := Lib.hid (BADT.out hok _ S7.out.below)
                      clear BADT HTT BADF HKF
                      go_wp2_with fail
                      go_ret
                      exact E.out
                    | true =>
                      have HT2 := Lib.hid (HTT.out hok)
                      clear BADT HTT BADF HKF
                      go_wp2_with fail
                      go_roundw
                      case rel => exact ⟨t + 1, by omega, by go_num, S7.out, B7.out, HT2.out⟩
                      case measure => first | (simp [intOf]; done) | (simp [intOf]; omega)
                  · have htc' : t = cn := by omega
                    subst htc'
                    have c0 : wr.cell? ⟨w.heap.size, 0, none⟩ = some (.slice (some ⟨b2, off2, none⟩) ni ci) := S6.out.b1.cell 0
                    obtain ⟨hxin, b3, off3, ee, _, hbl6, x0, _⟩ := S6.out.il.2 (fi + (t - 1)) (by omega)
                    injection ee with ee
                    injection ee with e1 e2 _
                    subst e1 e2
                    have hix : ((fi : Int) + (t : Int) - 1).toNat = fi + (t - 1) := by omega
                    have htn : ((fi : Int) + (t : Int)).toNat = fi + t := by omega
                    have FIN := Lib.hid (fun (hl : lastOk (X (fi + (t - 1))).op = true) => HKF.out ⟨HN'.out, g3, g4, g5, g6, HT.out, hl⟩)
                    have FINB := Lib.hid (fun (hl : lastOk (X (fi + (t - 1))).op = false) => BADF.out (fun h => by have := h.2.2.2.2.2.2; rw [hl] at this; cases this) _ S6.out.below)
                    clear BADF HKF HT NC hfi hco hfr
                    generalize (X (fi + (t - 1))).op = lo at *
                    generalize hmm : fi + (t - 1) = mm at *
                    clear hmm
                    have hlt2 : decide ((fi : Int) + (t : Int) < (fi : Int) + (t : Int)) = false := decide_eq_false (by omega)
                    cases hl : lastOk lo with
                    | true =>
                      have E := Lib.hid (FIN.out hl)
                      have hnx : Hid (((fi : Int) + (t : Int)) = firstOf Fs (j + 1)) := by
                        show ((fi : Int) + (t : Int)) = firstOf Fs j + (Fs j).count
                        rw [HFI.out, HCO.out]
                      have hn2 : Hid (0 ≤ firstOf Fs (j + 1) ∧ firstOf Fs (j + 1) ≤ (ni : Int)) := by
                        show 0 ≤ firstOf Fs (j + 1) ∧ firstOf Fs (j + 1) ≤ (ni : Int)
                        rw [← hnx.out]; omega
                      clear FIN FINB
                      have hl2 : lo = 21 ∨ lo = 27 ∨ lo = 35 := by unfold lastOk at hl; simp at hl; omega
                      clear hl
                      rcases hl2 with rfl | rfl | rfl
                      all_goals go_wp2_with fail
                      all_goals go_roundw
                      all_goals first
                        | exact ⟨j + 1, by omega, by go_num, by rw [← hnx.out], hn2.out.1, hn2.out.2, S6.out, E.out⟩
                        | (simp [intOf]; done)
                        | (simp [intOf]; omega)
                    | false =>
                      have E := Lib.hid (FINB.out hl)
                      clear FIN FINB
                      unfold lastOk at hl
                      simp at hl
                      have l1' : (lo != 21) = true := by rw [bne_iff_ne]; omega
                      have l2' : (lo != 27) = true := by rw [bne_iff_ne]; omega
                      have l3' : (lo != 35) = true := by rw [bne_iff_ne]; omega
                      clear hl
                      go_wp2_with fail
                      go_ret
                      exact E.out
      · have hf2 : ((Fs k).first != firstOf Fs k) = true := by simp [hf1]
        have E := Lib.hid (BADK.out (fun h => hf1 h.1) _ S3.out.below)
        clear BAD GOOD BADK HKK HK
        go_wp2_with fail
        go_ret
        exact E.out
    · have hkn : k = nf := by omega
      subst hkn
      by_cases hf1 : firstOf Fs k = (ni : Int)
      · have hf2 : (firstOf Fs k != (ni : Int)) = false := by simp [hf1]
        have HF1 := Lib.hid hf1
        clear hf1
        rcases (show m < 0 ∨ (0 ≤ m ∧ (k : Int) ≤ m) ∨ (0 ≤ m ∧ m < (k : Int)) by omega) with g | ⟨g1, g2⟩ | ⟨g1, g2⟩
        · have E := Lib.hid (BAD.out (fun h => by have := h.2.2.1; omega) _ S.out.below)
          clear BAD GOOD HK
          go_wp2_with fail
          go_ret
          exact E.out
        · have E := Lib.hid (BAD.out (fun h => by have := h.2.2.2.1; omega) _ S.out.below)
          clear BAD GOOD HK
          go_wp2_with fail
          go_ret
          exact E.out
        · obtain ⟨mn, rfl⟩ := Int.eq_ofNat_of_zero_le g1
          obtain ⟨hin, hsz, b, off, rfl, _, hbl, k0, k1, k2, k3, k4⟩ := S.out.fl.2 mn (by omega)
          by_cases hp : (Fs mn).params = 0
          · have hp2 : ((Fs mn).params != 0) = false := by simp [hp]
            have E := Lib.hid (GOOD.out ⟨HK.out, HF1.out, g1, g2, by rw [Int.toNat_natCast]; exact hp⟩ _ S.out.below)
            clear BAD GOOD HK hp
            go_wp2_with fail
            go_ret
            exact E.out
          · have hp2 : ((Fs mn).params != 0) = true := by simp [hp]
            have E := Lib.hid (BAD.out (fun h => by have := h.2.2.2.2; rw [Int.toNat_natCast] at this; exact hp this) _ S.out.below)
            clear BAD GOOD HK hp
            go_wp2_with fail
            go_ret
            exact E.out
      · have hf2 : (firstOf Fs k != (ni : Int)) = true := by simp [hf1]
        have E := Lib.hid (BAD.out (fun h => hf1 h.2.1) _ S.out.below)
        clear BAD GOOD HK
        go_wp2_with fail
        go_ret
        exact E.out
end Go.Proofs.Ytkjfbojmkkdgoaa
