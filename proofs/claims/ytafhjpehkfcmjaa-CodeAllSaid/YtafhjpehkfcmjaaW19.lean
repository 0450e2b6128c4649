/- the document's Write: the walk. -/
import Derived.Test.YtafhjpehkfcmjaaW18
set_option linter.unusedVariables false
set_option linter.unusedSimpArgs false
namespace Go.Proofs.Ytafhjpehkfcmjaa
open Go.RowKit
attribute [local go_sem ↓] Go.wp_at_zero Go.wp_at_succ
theorem WS.head0 {w wr : World} {G : Nat → Prop} {A B : Option Addr} {ni nf : Nat} {X : Nat → Ins} {Fs : Nat → Fn} {cc : Array Value} (h : DS w wr G A ni X B nf Fs cc) : WS w (wr.alloc (.cells #[.int .u8 113, .int .u8 114, .int .u8 49, .int .u8 54] 5)) G A ni X B nf Fs cc (.slice (some ⟨wr.heap.size, 0, none⟩) 4 4) [113, 114, 49, 54] := by
  refine ⟨h.only ((Only.refl _ _).alloc _), rfl, .inr ⟨wr.heap.size, 4, #[.int .u8 113, .int .u8 114, .int .u8 49, .int .u8 54], rfl, ?_, heap_alloc_new _ _, Nat.le_refl _, by unfold maxLen; omega, rfl, rfl⟩⟩
  have := h.b1.lt
  omega
set_option maxRecDepth 100000 in
set_option maxHeartbeats 32000000 in
theorem dwrite_c (w : World) (G : Nat → Prop) (hG : ∀ b, G b → b < w.heap.size) (A : Option Addr) (ni ci : Nat) (X : Nat → Ins) (B : Option Addr) (nf cf : Nat) (Fs : Nat → Fn) (m : Int) (hi : IL w G A ni X) (hci : ni ≤ ci) (hf : FL w G B nf Fs) (hcf : nf ≤ cf) (hm : i64in m) (hnf : nf ≤ 100000) (hni : ni ≤ 2000000) :
    Calls Try.prog 18 #[codeV A ni ci B nf cf m] w (WritePost ni X nf Fs m w) := by
  have BAD := Lib.hid (fun (hn : ¬ CodeOk ni X nf Fs m) (w' : World) (hw : Below w.heap.size w w') => show WritePost ni X nf Fs m w (.returned (.tuple #[.slice none 0 0, .int .i64 210])) w' from ⟨.slice none 0 0, 210, rfl, hw, .inr ⟨rfl, hn, rfl⟩⟩)
  have GOOD := Lib.hid (fun (hr : CodeOk ni X nf Fs m) (w' : World) (v : Value) (hw : WS w w' G A ni X B nf Fs #[.slice A ni ci, .slice B nf cf, .int .i64 m] v (headB nf m ++ fnsB Fs nf ++ inssB X ni)) => show WritePost ni X nf Fs m w (.returned (.tuple #[v, .int .i64 0])) w' from ⟨v, 0, rfl, hw.ds.below, .inl ⟨rfl, hr, hw.br.mono (Nat.le_succ _)⟩⟩)
  have HG := Lib.hid hG
  have S0 := Lib.hid (DS.start hi hf #[.slice A ni ci, .slice B nf cf, .int .i64 m])
  have CC := Lib.hid (dcheck_c (w.alloc (.cells #[.slice A ni ci, .slice B nf cf, .int .i64 m] 25)) G A ni ci X B nf cf Fs m S0.out.il hci S0.out.fl hcf hm (by omega))
  have SC := Lib.hid (fun w' (h : DS w w' G A ni X B nf Fs #[.slice A ni ci, .slice B nf cf, .int .i64 m]) hh ho => dsize_c w' G A ni ci X B nf cf Fs m h.il hci h.fl hcf hm (by omega) (by omega) hh ho)
  have HF := Lib.hid (fun (hh : CodeOk ni X nf Fs m) k hk => fnsB_le Fs k (fun j hj => hh.names j (by have : k ≤ nf := hk; omega)))
  have HI := Lib.hid (inssB_le X)
  have EL := Lib.hid (enc_length ni X nf Fs m)
  obtain ⟨m1, m2⟩ := hm
  clear hi hf hG
  unfold codeV at *
  go_enter Try.func18, Try.ntmps18
  go_wp2_with fail
  refine CC.out.mono ?_
  rintro e w1 ⟨r, rfl, hr, hb⟩
  have S1 := Lib.hid (S0.out.only (Only.ofBelow hb))
  clear CC S0 hb
  rcases hr with ⟨rfl, hok⟩ | ⟨rfl, hno⟩
  case inr =>
    have E := Lib.hid (BAD.out hno _ S1.out.below)
    clear BAD GOOD hno
    go_wp2_with fail
    go_ret2
    exact E.out
  have HNM := Lib.hid hok.names
  have HOP := Lib.hid hok.ops
  have HF2 := Lib.hid (HF.out hok)
  have GOOD2 := Lib.hid (GOOD.out hok)
  have c0 : w1.cell? ⟨w.heap.size, 0, none⟩ = some (.slice A ni ci) := S1.out.b1.cell 0
  have c1 : w1.cell? ⟨w.heap.size, 1, none⟩ = some (.slice B nf cf) := S1.out.b1.cell 1
  have c2 : w1.cell? ⟨w.heap.size, 2, none⟩ = some (.int .i64 m) := S1.out.b1.cell 2
  have hl1 := S1.out.b1.lt
  clear BAD GOOD HF hok
  go_wp2_with fail
  refine (SC.out _ S1.out HNM.out HOP.out).mono ?_
  rintro e w2 ⟨rfl, hb⟩
  have S2 := Lib.hid (WS.head0 (S1.out.only (Only.ofBelow hb)))
  have hsz : (enc ni X nf Fs m).length ≤ 268435456 := by
    rw [EL.out]
    have := HF2.out nf (Nat.le_refl _)
    have := HI.out ni
    omega
  have d1 : w2.cell? ⟨w.heap.size, 1, none⟩ = some (.slice B nf cf) := (S1.out.only (Only.ofBelow hb)).b1.cell 1
  have d2 : w2.cell? ⟨w.heap.size, 2, none⟩ = some (.int .i64 m) := (S1.out.only (Only.ofBelow hb)).b1.cell 2
  have hl2 := (S1.out.only (Only.ofBelow hb)).b1.lt
  clear hb SC S1 c0 c1 c2 hl1 EL
  generalize (enc ni X nf Fs m).length = z at *
  have LA := Lib.hid (S2.out.dlowc HG.out (n := (nf : Int)) (s := 4) ⟨by omega, by omega⟩ (size := 4) (by omega) rfl (by simp))
  have LB := Lib.hid (fun w' v' (h : WS w w' G A ni X B nf Fs #[.slice A ni ci, .slice B nf cf, .int .i64 m] v' ([113, 114, 49, 54] ++ lowB nf 4)) => h.dlowc HG.out (n := m) (s := 4) ⟨m1, m2⟩ (size := 4) (by omega) rfl (by simp [lowB_length]))
  go_wp2_with (first
    | (have X3 := S3; go_at_call 33; refine (LB.out _ _ X3.out).mono ?_; rintro e w4 ⟨v4, rfl, hw4, ho4⟩; have S4 := Lib.hid hw4; have e3 : w4.cell? ⟨w.heap.size, 1, none⟩ = some (.slice B nf cf) := S4.out.ds.b1.cell 1; clear hw4 ho4)
    | (go_at_call 33; refine LA.out.mono ?_; rintro e w3 ⟨v3, rfl, hw3, ho3⟩; have S3 := Lib.hid hw3; have e2 : w3.cell? ⟨w.heap.size, 2, none⟩ = some (.int .i64 m) := S3.out.ds.b1.cell 2; clear hw3 ho3))
  have S5 : Hid (WS w w4 G A ni X B nf Fs #[.slice A ni ci, .slice B nf cf, .int .i64 m] v4 (headB nf m ++ fnsB Fs 0)) := by show WS w w4 G A ni X B nf Fs #[.slice A ni ci, .slice B nf cf, .int .i64 m] v4 (headB nf m ++ fnsB Fs 0); rw [fnsB, List.append_nil]; exact S4.out
  have HL1 : Hid (∀ k, k ≤ nf → (headB nf m ++ fnsB Fs k).length ≤ 8000000) := fun k hk => by
    have := HF2.out k hk
    simp only [headB, List.length_append, lowB_length, List.length_cons, List.length_nil]
    omega
  clear LA LB S2 S3 S4 e2 e3 X3 d1 d2 hl2
  go_loopw [4, 5] (fun vv kv wx => ∃ k : Nat, k ≤ nf ∧ kv = .int .i64 (k : Int) ∧ Hid (WS w wx G A ni X B nf Fs #[.slice A ni ci, .slice B nf cf, .int .i64 m] vv (headB nf m ++ fnsB Fs k))) (fun _ kv _ => nf - (intOf kv).toNat)
  case atStart => exact ⟨0, by omega, rfl, S5⟩
  case round =>
    clear S5
    obtain ⟨k, hk, rfl, S⟩ := hrel
    have cB : wr.cell? ⟨w.heap.size, 1, none⟩ = some (.slice B nf cf) := S.out.ds.b1.cell 1
    have hlb := S.out.ds.b1.lt
    by_cases hlt : k < nf
    · obtain ⟨hin, hsz, b, off, rfl, _, hbl, k0, k1, k2, k3, k4⟩ := S.out.ds.fl.2 k hlt
      have S2 := Lib.hid (S.out.alloc (.cells #[.string (Fs k).name, .int .i64 (Fs k).frame, .int .i64 (Fs k).first, .int .i64 (Fs k).count, .int .i64 (Fs k).params] 53))
      have BF := Lib.hid (Blk.new wr 53 #[.string (Fs k).name, .int .i64 (Fs k).frame, .int .i64 (Fs k).first, .int .i64 (Fs k).count, .int .i64 (Fs k).params])
      have hz := HNM.out k hlt
      have HL4 : Hid ((headB nf m ++ fnsB Fs k).length ≤ 999999000 ∧ (headB nf m ++ fnsB Fs k ++ lowB (Fs k).name.size 1).length + (Fs k).name.size ≤ 1000000000 ∧ (headB nf m ++ fnsB Fs k ++ lowB (Fs k).name.size 1 ++ (Fs k).name.data.toList).length ≤ 999999000 ∧ (headB nf m ++ fnsB Fs k ++ lowB (Fs k).name.size 1 ++ (Fs k).name.data.toList ++ lowB (Fs k).frame 8).length ≤ 999999000 ∧ (headB nf m ++ fnsB Fs k ++ lowB (Fs k).name.size 1 ++ (Fs k).name.data.toList ++ lowB (Fs k).frame 8 ++ lowB (Fs k).count 4).length ≤ 999999000) := by
        have := HL1.out k hk
        have e : (Fs k).name.data.toList.length = (Fs k).name.size := by rw [Array.length_toList]; rfl
        show _ ∧ _ ∧ _
        simp only [List.length_append, lowB_length, e, List.length_cons, List.length_nil] at this ⊢
        omega
      obtain ⟨⟨i1, i2⟩, ⟨i3, i4⟩, ⟨i5, i6⟩, ⟨i7, i8⟩⟩ := id hin
      have L0 := Lib.hid (S2.out.dlowc HG.out (n := ((Fs k).name.size : Int)) (s := 1) ⟨by omega, by omega⟩ (size := 1) (by omega) rfl HL4.out.1)
      have LA := Lib.hid (fun w' v' (h : WS w w' G A ni X (some ⟨b, off, none⟩) nf Fs #[.slice A ni ci, .slice (some ⟨b, off, none⟩) nf cf, .int .i64 m] v' (headB nf m ++ fnsB Fs k ++ lowB (Fs k).name.size 1 ++ (Fs k).name.data.toList)) => h.dlowc HG.out (n := (Fs k).frame) (s := 8) ⟨i1, i2⟩ (size := 8) (by omega) rfl HL4.out.2.2.1)
      have LB := Lib.hid (fun w' v' (h : WS w w' G A ni X (some ⟨b, off, none⟩) nf Fs #[.slice A ni ci, .slice (some ⟨b, off, none⟩) nf cf, .int .i64 m] v' (headB nf m ++ fnsB Fs k ++ lowB (Fs k).name.size 1 ++ (Fs k).name.data.toList ++ lowB (Fs k).frame 8)) => h.dlowc HG.out (n := (Fs k).count) (s := 4) ⟨i5, i6⟩ (size := 4) (by omega) rfl HL4.out.2.2.2.1)
      have LC := Lib.hid (fun w' v' (h : WS w w' G A ni X (some ⟨b, off, none⟩) nf Fs #[.slice A ni ci, .slice (some ⟨b, off, none⟩) nf cf, .int .i64 m] v' (headB nf m ++ fnsB Fs k ++ lowB (Fs k).name.size 1 ++ (Fs k).name.data.toList ++ lowB (Fs k).frame 8 ++ lowB (Fs k).count 4)) => h.dlowc HG.out (n := (Fs k).params) (s := 1) ⟨i7, i8⟩ (size := 1) (by omega) rfl HL4.out.2.2.2.2)
      have HLm := Lib.hid HL4.out.2.1
      clear hin S HL1 HF2 HI GOOD2 HNM HOP HL4
      go_wp2_with (first
        | (have X7 := S6; go_at_call 33; refine (LC.out _ _ X7.out).mono ?_; rintro e w7 ⟨v7, rfl, hw7, ho7⟩; have S7 := Lib.hid hw7; clear hw7 ho7)
        | (have X6 := S5; go_at_call 33; refine (LB.out _ _ X6.out).mono ?_; rintro e w6 ⟨v6, rfl, hw6, ho6⟩; have S6 := Lib.hid hw6; have s6F := Lib.hid (X6.out.blk s5F.out (by decide) ho6); have s61 : w6.cell? ⟨wr.heap.size, 1, none⟩ = some (.int .i64 (Fs k).frame) := s6F.out.cell 1; have s63 : w6.cell? ⟨wr.heap.size, 3, none⟩ = some (.int .i64 (Fs k).count) := s6F.out.cell 3; have s64 : w6.cell? ⟨wr.heap.size, 4, none⟩ = some (.int .i64 (Fs k).params) := s6F.out.cell 4; clear hw6 ho6)
        | (have X5 := S4; go_at_call 33; refine (LA.out _ _ X5.out).mono ?_; rintro e w5 ⟨v5, rfl, hw5, ho5⟩; have S5 := Lib.hid hw5; have s5F := Lib.hid (X5.out.blk s4F.out (by decide) ho5); have s51 : w5.cell? ⟨wr.heap.size, 1, none⟩ = some (.int .i64 (Fs k).frame) := s5F.out.cell 1; have s53 : w5.cell? ⟨wr.heap.size, 3, none⟩ = some (.int .i64 (Fs k).count) := s5F.out.cell 3; have s54 : w5.cell? ⟨wr.heap.size, 4, none⟩ = some (.int .i64 (Fs k).params) := s5F.out.cell 4; clear hw5 ho5)
        | (have X4 := S3; at_builtin; go_must (refine wpList_pushS rfl (.tmp 46) (.tmp 48) rfl (Fs k).name rfl X4.out.br (by have := X4.out.ds.b1.lt; omega) rfl HLm.out ?_); go_must (intro v4' w4' hb4 ho4; have S4 := Lib.hid (X4.out.own HG.out ho4 hb4); have s4F := Lib.hid (X4.out.blk s3F.out (by decide) ho4); have s41 : w4'.cell? ⟨wr.heap.size, 1, none⟩ = some (.int .i64 (Fs k).frame) := s4F.out.cell 1; have s43 : w4'.cell? ⟨wr.heap.size, 3, none⟩ = some (.int .i64 (Fs k).count) := s4F.out.cell 3; have s44 : w4'.cell? ⟨wr.heap.size, 4, none⟩ = some (.int .i64 (Fs k).params) := s4F.out.cell 4; clear hb4 ho4))
        | (go_at_call 33; refine L0.out.mono ?_; rintro e w3' ⟨v3', rfl, hw3, ho3⟩; have S3 := Lib.hid hw3; have s3F := Lib.hid (S2.out.blk BF.out (by decide) ho3); have q0 : w3'.cell? ⟨wr.heap.size, 0, none⟩ = some (.string (Fs k).name) := s3F.out.cell 0; clear hw3 ho3))
      have SN : Hid (WS w w7 G A ni X (some ⟨b, off, none⟩) nf Fs #[.slice A ni ci, .slice (some ⟨b, off, none⟩) nf cf, .int .i64 m] v7 (headB nf m ++ fnsB Fs (k + 1))) := by
        show WS w w7 G A ni X (some ⟨b, off, none⟩) nf Fs #[.slice A ni ci, .slice (some ⟨b, off, none⟩) nf cf, .int .i64 m] v7 (headB nf m ++ fnsB Fs (k + 1))
        have e : headB nf m ++ fnsB Fs (k + 1) = headB nf m ++ fnsB Fs k ++ lowB (Fs k).name.size 1 ++ (Fs k).name.data.toList ++ lowB (Fs k).frame 8 ++ lowB (Fs k).count 4 ++ lowB (Fs k).params 1 := by simp [fnsB, fnB, low1, List.append_assoc]
        rw [e]
        exact S7.out
      clear L0 LA LB LC S2 S3 S4 S5 S6 S7 BF s3F s4F s5F s6F X4 X5 X6 X7
      go_roundw
      case rel => exact ⟨k + 1, by omega, by go_num, SN⟩
      case measure => first | (simp [intOf]; done) | (simp [intOf]; omega)
    · have hkn : k = nf := by omega
      subst hkn
      go_wp2_with fail
      have HL0 := HL1.out k (Nat.le_refl _)
      have S6 : Hid (WS w wr G A ni X B k Fs #[.slice A ni ci, .slice B k cf, .int .i64 m] u4 (headB k m ++ fnsB Fs k ++ inssB X 0)) := by
        show WS w wr G A ni X B k Fs #[.slice A ni ci, .slice B k cf, .int .i64 m] u4 (headB k m ++ fnsB Fs k ++ inssB X 0)
        rw [inssB, List.append_nil]; exact S.out
      clear cB hlb S HL1 HF2 HNM
      generalize headB k m ++ fnsB Fs k = l0 at *
      go_loopw [4, 7] (fun vv jv wx => ∃ j : Nat, j ≤ ni ∧ jv = .int .i64 (j : Int) ∧ Hid (WS w wx G A ni X B k Fs #[.slice A ni ci, .slice B k cf, .int .i64 m] vv (l0 ++ inssB X j))) (fun _ jv _ => ni - (intOf jv).toNat)
      case atStart => exact ⟨0, by omega, rfl, S6⟩
      case round =>
        clear S6
        obtain ⟨j, hj, rfl, S⟩ := hrel
        have cA : wr.cell? ⟨w.heap.size, 0, none⟩ = some (.slice A ni ci) := S.out.ds.b1.cell 0
        have hlb := S.out.ds.b1.lt
        by_cases hjt : j < ni
        · obtain ⟨hin, b, off, rfl, _, hbl, k0, k1, k2, k3, k4⟩ := S.out.ds.il.2 j hjt
          have FC := Lib.hid (fun w' => fields_c (X j).op hin.op w')
          have hok := HOP.out j hjt
          rw [dflags_fl hok] at FC
          obtain ⟨_, q2, _⟩ := shape_cases (X j).op
          have S2 := Lib.hid (S.out.alloc (.cells #[.int .i64 (X j).op, .int .i64 (X j).a, .int .i64 (X j).b, .int .i64 (X j).c, .int .i64 (X j).n] 41))
          have BI := Lib.hid (Blk.new wr 41 #[.int .i64 (X j).op, .int .i64 (X j).a, .int .i64 (X j).b, .int .i64 (X j).c, .int .i64 (X j).n])
          have hib := HI.out j
          have HL2 : Hid ((l0 ++ inssB X j).length ≤ 900000000) := by show _ ≤ _; rw [List.length_append]; omega
          have HL3 : Hid (∀ i, i ≤ 3 → (l0 ++ inssB X j ++ lowB (X j).op 1 ++ regsB (X j) i).length ≤ 999999000) := fun i hi => by
            have := HL2.out
            simp only [List.length_append, List.length_cons, List.length_nil, regsB_length, lowB_length] at this ⊢
            omega
          have LOP := Lib.hid (fun w' v' (h : WS w w' G (some ⟨b, off, none⟩) ni X B k Fs #[.slice (some ⟨b, off, none⟩) ni ci, .slice B k cf, .int .i64 m] v' (l0 ++ inssB X j)) => h.dlowc HG.out (n := (X j).op) (s := 1) hin.op (size := 1) (by omega) rfl (by have := HL2.out; omega))
          have LW := Lib.hid (fun w' v' i (hi : i ≤ 3) (h : WS w w' G (some ⟨b, off, none⟩) ni X B k Fs #[.slice (some ⟨b, off, none⟩) ni ci, .slice B k cf, .int .i64 m] v' (l0 ++ inssB X j ++ lowB (X j).op 1 ++ regsB (X j) i)) => h.dlowc HG.out (n := (X j).n) (s := 8) hin.n (size := 8) (by omega) rfl (HL3.out i hi))
          have LR : Hid (∀ (w' : World) v' (i : Nat), i < 3 → WS w w' G (some ⟨b, off, none⟩) ni X B k Fs #[.slice (some ⟨b, off, none⟩) ni ci, .slice B k cf, .int .i64 m] v' (l0 ++ inssB X j ++ lowB (X j).op 1 ++ regsB (X j) i) → Calls Try.prog 33 #[v', .int .i64 (regN (X j) i), .int .i64 1] w' fun e w2 => ∃ v2, e = .returned v2 ∧ WS w w2 G (some ⟨b, off, none⟩) ni X B k Fs #[.slice (some ⟨b, off, none⟩) ni ci, .slice B k cf, .int .i64 m] v2 (l0 ++ inssB X j ++ lowB (X j).op 1 ++ regsB (X j) (i + 1)) ∧ Only (fun b => v'.ownBlock = some b) w' w2) := fun w' v' i hi h => by
            have hn : i64in (regN (X j) i) := by
              match i, hi with
              | 0, _ => exact hin.a
              | 1, _ => exact hin.b
              | 2, _ => exact hin.c
              | n + 3, hi => omega
            refine (h.dlowc HG.out (n := regN (X j) i) (s := 1) hn (size := 1) (by omega) rfl (HL3.out i (by omega))).mono ?_
            rintro e w2 ⟨v2, rfl, h2, h3⟩
            refine ⟨v2, rfl, ?_, h3⟩
            rw [low1 (regN (X j) i), List.append_assoc] at h2
            exact h2
          have INS : Hid (inssB X (j + 1) = inssB X j ++ (Ytafhjpehkfcmjaa.u8 (X j).op :: (regsB (X j) (regsOf (X j).op) ++ if wideOf (X j).op then lowB (X j).n 8 else []))) := rfl
          obtain ⟨i1, i2⟩ := id hin.n
          clear S hib hin hok HI
          generalize regsOf (X j).op = r at *
          generalize wideOf (X j).op = wd at *
          have F0 : Hid (fl r wd 3 = wd) := rfl
          have FA := Lib.hid (fl_at r wd)
          generalize fl r wd = u at *
          unfold uV at FC
          obtain ⟨wo, rfl⟩ : ∃ x, x = wr := ⟨_, rfl⟩
          go_wp2_with (first
            | (go_at_call 34; refine (FC.out _).mono ?_; rintro e wf ⟨rfl, hbf⟩; have S3 := Lib.hid (S2.out.quiet (Only.ofBelow hbf)); have BI3 := Lib.hid (BI.out.only (F := fun _ => False) (Only.ofBelow hbf) (fun h => h)); have S4 := Lib.hid (S3.out.alloc (.cells #[.bool (u 0), .bool (u 1), .bool (u 2), .bool (u 3)] 72)); have BI4 := Lib.hid (BI3.out.alloc (.cells #[.bool (u 0), .bool (u 1), .bool (u 2), .bool (u 3)] 72)); have BU4 : Hid (Blk (wf.alloc (.cells #[.bool (u 0), .bool (u 1), .bool (u 2), .bool (u 3)] 72)) wf.heap.size 72 (uV u)) := Blk.new wf 72 (uV u); have z0 : wf.cell? ⟨wo.heap.size, 0, none⟩ = some (.int .i64 (X j).op) := BI3.out.cell 0; have zl := BI3.out.lt; clear hbf)
            | (have X4 := S4; go_at_call 33; refine (LOP.out _ _ X4.out).mono ?_; rintro e wg ⟨vg, rfl, hwg, hog⟩; have S5 := Lib.hid hwg; have BI5 := Lib.hid (X4.out.blk BI4.out (by decide) hog); have BU5 := Lib.hid (X4.out.blk BU4.out (by decide) hog); have p1 : wg.cell? ⟨wo.heap.size, 1, none⟩ = some (.int .i64 (X j).a) := BI5.out.cell 1; have p2 : wg.cell? ⟨wo.heap.size, 2, none⟩ = some (.int .i64 (X j).b) := BI5.out.cell 2; have p3 : wg.cell? ⟨wo.heap.size, 3, none⟩ = some (.int .i64 (X j).c) := BI5.out.cell 3; clear hwg hog))
          have S6 : Hid (WS w (wg.alloc (.cells #[.int .i64 (X j).a, .int .i64 (X j).b, .int .i64 (X j).c] 75)) G (some ⟨b, off, none⟩) ni X B k Fs #[.slice (some ⟨b, off, none⟩) ni ci, .slice B k cf, .int .i64 m] vg (l0 ++ inssB X j ++ lowB (X j).op 1 ++ regsB (X j) (min 0 r))) := by
            show WS w (wg.alloc (.cells #[.int .i64 (X j).a, .int .i64 (X j).b, .int .i64 (X j).c] 75)) G (some ⟨b, off, none⟩) ni X B k Fs #[.slice (some ⟨b, off, none⟩) ni ci, .slice B k cf, .int .i64 m] vg (l0 ++ inssB X j ++ lowB (X j).op 1 ++ regsB (X j) (min 0 r))
            rw [Nat.zero_min, regsB, List.append_nil]
            exact S5.out.alloc _
          have BI6 := Lib.hid (BI5.out.alloc (.cells #[.int .i64 (X j).a, .int .i64 (X j).b, .int .i64 (X j).c] 75))
          have BU6 := Lib.hid (BU5.out.alloc (.cells #[.int .i64 (X j).a, .int .i64 (X j).b, .int .i64 (X j).c] 75))
          have BR6 : Hid (Blk (wg.alloc (.cells #[.int .i64 (X j).a, .int .i64 (X j).b, .int .i64 (X j).c] 75)) wg.heap.size 75 (lV (regN (X j)))) := Blk.new wg 75 _
          clear S2 S3 S4 S5 BI BI3 BI4 BI5 BU4 BU5 FC LOP X4 p1 p2 p3 z0 zl cA k0 k1 k2 k3 k4 hlb
          go_loopw [4, 12] (fun vv iv wx => ∃ i : Nat, i ≤ 3 ∧ iv = .int .i64 (i : Int) ∧ Hid (WS w wx G (some ⟨b, off, none⟩) ni X B k Fs #[.slice (some ⟨b, off, none⟩) ni ci, .slice B k cf, .int .i64 m] vv (l0 ++ inssB X j ++ lowB (X j).op 1 ++ regsB (X j) (min i r))) ∧ Hid (Blk wx wo.heap.size 41 #[.int .i64 (X j).op, .int .i64 (X j).a, .int .i64 (X j).b, .int .i64 (X j).c, .int .i64 (X j).n]) ∧ Hid (Blk wx wf.heap.size 72 (uV u)) ∧ Hid (Blk wx wg.heap.size 75 (lV (regN (X j))))) (fun _ iv _ => 3 - (intOf iv).toNat)
          case atStart => exact ⟨0, by omega, rfl, S6, BI6, BU6, BR6⟩
          case round =>
            clear S6 BI6 BU6 BR6
            obtain ⟨i, hi3, rfl, S, BI, BU, BR⟩ := hrel
            have hlu := BU.out.lt
            have hlr := BR.out.lt
            by_cases hit : i < 3
            · have cu : wr.cell? ⟨wf.heap.size, i, none⟩ = some (.bool (u i)) := (BU.out.cell i).trans (uV_at u i (by omega))
              have cr : wr.cell? ⟨wg.heap.size, i, none⟩ = some (.int .i64 (regN (X j) i)) := (BR.out.cell i).trans (lV_at _ i hit)
              rw [FA.out i hit] at cu
              by_cases hir : i < r
              · rw [decide_eq_true hir] at cu
                have S1 : Hid (WS w wr G (some ⟨b, off, none⟩) ni X B k Fs #[.slice (some ⟨b, off, none⟩) ni ci, .slice B k cf, .int .i64 m] u4 (l0 ++ inssB X j ++ lowB (X j).op 1 ++ regsB (X j) i)) := by show WS w wr G (some ⟨b, off, none⟩) ni X B k Fs #[.slice (some ⟨b, off, none⟩) ni ci, .slice B k cf, .int .i64 m] u4 (l0 ++ inssB X j ++ lowB (X j).op 1 ++ regsB (X j) i); have := S.out; rw [Nat.min_eq_left (by omega)] at this; exact this
                have LRi := Lib.hid (LR.out wr u4 i hit S1.out)
                clear LR HL3 HL2
                generalize hx : regN (X j) i = x at LRi cr
                go_wp2_with (first
                  | (go_at_call 33; refine LRi.out.mono ?_; rintro e wh ⟨vh, rfl, hwh, hoh⟩; have S7 := Lib.hid hwh; have BI7 := Lib.hid (S.out.blk BI.out (by decide) hoh); have BU7 := Lib.hid (S.out.blk BU.out (by decide) hoh); have BR7 := Lib.hid (S.out.blk BR.out (by decide) hoh); clear hwh hoh))
                have S8 : Hid (WS w wh G (some ⟨b, off, none⟩) ni X B k Fs #[.slice (some ⟨b, off, none⟩) ni ci, .slice B k cf, .int .i64 m] vh (l0 ++ inssB X j ++ lowB (X j).op 1 ++ regsB (X j) (min (i + 1) r))) := by show WS w wh G (some ⟨b, off, none⟩) ni X B k Fs #[.slice (some ⟨b, off, none⟩) ni ci, .slice B k cf, .int .i64 m] vh (l0 ++ inssB X j ++ lowB (X j).op 1 ++ regsB (X j) (min (i + 1) r)); rw [Nat.min_eq_left (by omega)]; exact S7.out
                clear S7 S1 S hx
                go_roundw
                case rel => exact ⟨i + 1, by omega, by go_num, S8, BI7, BU7, BR7⟩
                case measure => first | (simp [intOf]; done) | (simp [intOf]; omega)
              · rw [decide_eq_false hir] at cu
                have S8 : Hid (WS w wr G (some ⟨b, off, none⟩) ni X B k Fs #[.slice (some ⟨b, off, none⟩) ni ci, .slice B k cf, .int .i64 m] u4 (l0 ++ inssB X j ++ lowB (X j).op 1 ++ regsB (X j) (min (i + 1) r))) := by show WS w wr G (some ⟨b, off, none⟩) ni X B k Fs #[.slice (some ⟨b, off, none⟩) ni ci, .slice B k cf, .int .i64 m] u4 (l0 ++ inssB X j ++ lowB (X j).op 1 ++ regsB (X j) (min (i + 1) r)); have := S.out; rw [Nat.min_eq_right (by omega)] at this; rw [Nat.min_eq_right (by omega)]; exact this
                clear S LR HL3 HL2 cr
                go_wp2_with fail
                go_roundw
                case rel => exact ⟨i + 1, by omega, by go_num, S8, BI, BU, BR⟩
                case measure => first | (simp [intOf]; done) | (simp [intOf]; omega)
            · have hi' : i = 3 := by omega
              subst hi'
              have cu : wr.cell? ⟨wf.heap.size, 3, none⟩ = some (.bool (u 3)) := BU.out.cell 3
              rw [F0.out] at cu
              have S1 : Hid (WS w wr G (some ⟨b, off, none⟩) ni X B k Fs #[.slice (some ⟨b, off, none⟩) ni ci, .slice B k cf, .int .i64 m] u4 (l0 ++ inssB X j ++ lowB (X j).op 1 ++ regsB (X j) r)) := by show WS w wr G (some ⟨b, off, none⟩) ni X B k Fs #[.slice (some ⟨b, off, none⟩) ni ci, .slice B k cf, .int .i64 m] u4 (l0 ++ inssB X j ++ lowB (X j).op 1 ++ regsB (X j) r); have := S.out; rw [Nat.min_eq_right q2] at this; exact this
              have p4 : wr.cell? ⟨wo.heap.size, 4, none⟩ = some (.int .i64 (X j).n) := BI.out.cell 4
              have hl4 := BI.out.lt
              cases wd with
              | true =>
                have LWr := Lib.hid (LW.out wr u4 r q2 S1.out)
                clear BI BR BU HL3 HL2 S LR S1 LW
                go_wp2_with (first | (go_at_call 33; refine LWr.out.mono ?_; rintro e w6' ⟨v6', rfl, hw6, ho6⟩; have S6 := Lib.hid hw6; clear hw6 ho6))
                have S7 : Hid (WS w w6' G (some ⟨b, off, none⟩) ni X B k Fs #[.slice (some ⟨b, off, none⟩) ni ci, .slice B k cf, .int .i64 m] v6' (l0 ++ inssB X (j + 1))) := by
                  show WS w w6' G (some ⟨b, off, none⟩) ni X B k Fs #[.slice (some ⟨b, off, none⟩) ni ci, .slice B k cf, .int .i64 m] v6' (l0 ++ inssB X (j + 1))
                  have e : l0 ++ inssB X (j + 1) = l0 ++ inssB X j ++ lowB (X j).op 1 ++ regsB (X j) r ++ lowB (X j).n 8 := by rw [INS.out, low1]; simp only [if_true, List.append_assoc, List.cons_append, List.nil_append]
                  rw [e]
                  exact S6.out
                clear S6
                go_roundw
                case rel => exact ⟨j + 1, by omega, by go_num, S7⟩
                case measure => first | (simp [intOf]; done) | (simp [intOf]; omega)
              | false =>
                have S7 : Hid (WS w wr G (some ⟨b, off, none⟩) ni X B k Fs #[.slice (some ⟨b, off, none⟩) ni ci, .slice B k cf, .int .i64 m] u4 (l0 ++ inssB X (j + 1))) := by
                  show WS w wr G (some ⟨b, off, none⟩) ni X B k Fs #[.slice (some ⟨b, off, none⟩) ni ci, .slice B k cf, .int .i64 m] u4 (l0 ++ inssB X (j + 1))
                  have e : l0 ++ inssB X (j + 1) = l0 ++ inssB X j ++ lowB (X j).op 1 ++ regsB (X j) r := by rw [INS.out, low1]; simp only [Bool.false_eq_true, if_false, List.append_assoc, List.cons_append, List.nil_append, List.append_nil]
                  rw [e]
                  exact S1.out
                clear S BI BR BU HL3 HL2 S1 LR LW
                go_wp2_with fail
                go_roundw
                case rel => exact ⟨j + 1, by omega, by go_num, S7⟩
                case measure => first | (simp [intOf]; done) | (simp [intOf]; omega)
        · have hjn : j = ni := by omega
          subst hjn
          have E := Lib.hid (GOOD2.out _ _ S.out)
          clear S GOOD2
          go_wp2_with fail
          go_ret2
          exact E.out
end Go.Proofs.Ytafhjpehkfcmjaa
