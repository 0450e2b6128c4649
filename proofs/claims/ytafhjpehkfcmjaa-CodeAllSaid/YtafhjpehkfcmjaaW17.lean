/- code's Write: the walk. -/
import Derived.Test.YtafhjpehkfcmjaaW16
import Derived.Lib.SlBytesConst
set_option linter.unusedVariables false
set_option linter.unusedSimpArgs false
namespace Go.Proofs.Ytafhjpehkfcmjaa
open Go.RowKit
attribute [local go_sem ↓] Go.wp_at_zero Go.wp_at_succ
def WritePost (ni : Nat) (X : Nat → Ins) (nf : Nat) (Fs : Nat → Fn) (m : Int) (w : World) (e : Ending) (w' : World) : Prop :=
  ∃ (v : Value) (r : Int), e = .returned (.tuple #[v, .int .i64 r]) ∧ Below w.heap.size w w' ∧ ((r = 0 ∧ CodeOk ni X nf Fs m ∧ BR w' w.heap.size v (enc ni X nf Fs m)) ∨ (r = 210 ∧ ¬ CodeOk ni X nf Fs m ∧ v = .slice none 0 0))
def headB (nf : Nat) (m : Int) : List UInt8 := [113, 114, 49, 54] ++ lowB nf 4 ++ lowB m 4
theorem CodeOk.names {ni : Nat} {X : Nat → Ins} {nf : Nat} {Fs : Nat → Fn} {m : Int} (h : CodeOk ni X nf Fs m) : ∀ k, k < nf → (Fs k).name.size ≤ 64 := fun k hk => (h.1 k hk).2.2.2.2.1.2.1
section
variable {w wr w2 : World} {G : Nat → Prop} {A B : Option Addr} {ni nf : Nat} {X : Nat → Ins} {Fs : Nat → Fn} {cc : Array Value} {v v2 : Value} {l l2 : List UInt8}
theorem WS.head (h : DS w wr G A ni X B nf Fs cc) : DS w (wr.alloc (.cells #[.int .u8 113, .int .u8 114, .int .u8 49, .int .u8 54] 5 (4, 5))) G A ni X B nf Fs cc ∧ Mk (wr.alloc (.cells #[.int .u8 113, .int .u8 114, .int .u8 49, .int .u8 54] 5 (4, 5))) (w.heap.size + 1) (.slice (some ⟨wr.heap.size, 0, none⟩) 4 4) [113, 114, 49, 54] := by
  refine ⟨h.only ((Only.refl _ _).alloc _), wr.heap.size, rfl, ?_, heap_alloc_new _ _⟩
  have := h.b1.lt
  omega
theorem WS.first (hG : ∀ b, G b → b < w.heap.size) (h : DS w wr G A ni X B nf Fs cc) (hv : Mk wr (w.heap.size + 1) v l) {n s : Int} (hn : i64in n) {size : Nat} (hs : size ≤ 8) (hs1 : 1 ≤ size) (he : s = (size : Int)) (hl : l.length ≤ 999999000) :
    Calls Try.prog 26 #[v, .int .i64 n, .int .i64 s] wr fun e w' => ∃ v', e = .returned v' ∧ WS w w' G A ni X B nf Fs cc v' (l ++ lowB n size) := by
  subst he
  have := h.b1.lt
  refine (lowM_c n hn size hs hs1 wr (w.heap.size + 1) (by omega) v l (.inr hv) hl).mono ?_
  rintro e w' ⟨v', rfl, hb, o⟩
  obtain ⟨g, rfl, hg, _⟩ := hv
  have hF : ∀ b, b ≤ w.heap.size → ¬ (Value.slice (some ⟨g, 0, none⟩) l.length l.length).ownBlock = some b := fun b hb he => by
    have : g = b := by simpa [Value.ownBlock] using he
    omega
  exact ⟨v', rfl, ⟨⟨h.b1.only o (hF _ (Nat.le_refl _)), h.il.only o (fun b _ hg => hF b (by have := hG b hg; omega)), h.fl.only o (fun b _ hg => hF b (by have := hG b hg; omega)), h.below.trans (o.toBelow h.below.size (fun b hb => hF b (by omega)))⟩, hb⟩⟩
theorem WS.lowc (hG : ∀ b, G b → b < w.heap.size) (h : WS w wr G A ni X B nf Fs cc v l) {n s : Int} (hn : i64in n) {size : Nat} (hs : size ≤ 8) (he : s = (size : Int)) (hl : l.length ≤ 999999000) :
    Calls Try.prog 26 #[v, .int .i64 n, .int .i64 s] wr fun e w' => ∃ v', e = .returned v' ∧ WS w w' G A ni X B nf Fs cc v' (l ++ lowB n size) ∧ Only (fun b => v.ownBlock = some b) wr w' := by
  subst he
  have := h.ds.b1.lt
  refine (low_c n hn size hs wr (w.heap.size + 1) (by omega) v l h.br hl).mono ?_
  rintro e w' ⟨v', rfl, hb, ho⟩
  exact ⟨v', rfl, h.own hG ho hb, ho⟩
theorem WS.dlowc (hG : ∀ b, G b → b < w.heap.size) (h : WS w wr G A ni X B nf Fs cc v l) {n s : Int} (hn : i64in n) {size : Nat} (hs : size ≤ 8) (he : s = (size : Int)) (hl : l.length ≤ 999999000) :
    Calls Try.prog 33 #[v, .int .i64 n, .int .i64 s] wr fun e w' => ∃ v', e = .returned v' ∧ WS w w' G A ni X B nf Fs cc v' (l ++ lowB n size) ∧ Only (fun b => v.ownBlock = some b) wr w' := by
  subst he
  have := h.ds.b1.lt
  refine (dlow_c n hn size hs wr (w.heap.size + 1) (by omega) v l h.br hl).mono ?_
  rintro e w' ⟨v', rfl, hb, ho⟩
  exact ⟨v', rfl, h.own hG ho hb, ho⟩
theorem WS.drew (h : WS w wr G A ni X B nf Fs cc v l) : WS w wr.drew G A ni X B nf Fs cc v l := h.quiet ((Only.refl _ _).drew)
theorem WS.blk (h : WS w wr G A ni X B nf Fs cc v l) {g : Nat} {t : TypeId} {cs : Array Value} (hb : Blk wr g t cs) (ht : (5 : TypeId) ≠ t) (o : Only (fun b => v.ownBlock = some b) wr w2) : Blk w2 g t cs := hb.only o (fun he => h.br.ne hb ht he)
end
set_option maxRecDepth 100000 in
set_option maxHeartbeats 32000000 in
theorem write_c (w : World) (G : Nat → Prop) (hG : ∀ b, G b → b < w.heap.size) (A : Option Addr) (ni ci : Nat) (X : Nat → Ins) (B : Option Addr) (nf cf : Nat) (Fs : Nat → Fn) (m : Int) (hi : IL w G A ni X) (hci : ni ≤ ci) (hf : FL w G B nf Fs) (hcf : nf ≤ cf) (hm : i64in m) (hnf : nf ≤ 100000) (hni : ni ≤ 2000000) :
    Calls Try.prog 16 #[codeV A ni ci B nf cf m] w (WritePost ni X nf Fs m w) := by
  have BAD := Lib.hid (fun (hn : ¬ CodeOk ni X nf Fs m) (w' : World) (hw : Below w.heap.size w w') => show WritePost ni X nf Fs m w (.returned (.tuple #[.slice none 0 0, .int .i64 210])) w' from ⟨.slice none 0 0, 210, rfl, hw, .inr ⟨rfl, hn, rfl⟩⟩)
  have GOOD := Lib.hid (fun (hr : CodeOk ni X nf Fs m) (w' : World) (v : Value) (hw : WS w w' G A ni X B nf Fs #[.slice A ni ci, .slice B nf cf, .int .i64 m] v (enc ni X nf Fs m)) => show WritePost ni X nf Fs m w (.returned (.tuple #[v, .int .i64 0])) w' from ⟨v, 0, rfl, hw.ds.below, .inl ⟨rfl, hr, hw.br.mono (Nat.le_succ _)⟩⟩)
  have HG := Lib.hid hG
  have S0 := Lib.hid (DS.start hi hf #[.slice A ni ci, .slice B nf cf, .int .i64 m])
  have CC := Lib.hid (check_c (w.alloc (.cells #[.slice A ni ci, .slice B nf cf, .int .i64 m] 25)) G (fun b hb => by have := hG b hb; simp; omega) A ni ci X B nf cf Fs m S0.out.il hci S0.out.fl hm (by omega))
  have SC := Lib.hid (fun w' (h : DS w w' G A ni X B nf Fs #[.slice A ni ci, .slice B nf cf, .int .i64 m]) hh => size_c w' G A ni ci X B nf cf Fs m h.il hci h.fl hcf hm (by omega) (by omega) hh)
  have HM := Lib.hid hm
  have HF := Lib.hid (fun (hh : CodeOk ni X nf Fs m) k hk => fnsB_le Fs k (fun j hj => hh.names j (by have : k ≤ nf := hk; omega)))
  have HI := Lib.hid (inssB_le X)
  have EL := Lib.hid (enc_length ni X nf Fs m)
  obtain ⟨m1, m2⟩ := hm
  clear hi hf hG
  unfold codeV at *
  go_enter Try.func16, Try.ntmps16
  go_wp2_with fail
  refine CC.out.mono ?_
  rintro e w1 ⟨r, rfl, hr, hb⟩
  have S1 := Lib.hid (S0.out.only (Only.ofBelow hb))
  clear CC S0 hb
  rcases hr with ⟨rfl, hok⟩ | ⟨rfl, hno⟩
  case inr =>
    have E := Lib.hid (BAD.out hno _ S1.out.below)
    clear BAD GOOD hno
    go_wp2_with fail
    go_ret2
    exact E.out
  have HNM := Lib.hid hok.names
  have HF2 := Lib.hid (HF.out hok)
  have GOOD2 := Lib.hid (GOOD.out hok)
  have c0 : w1.cell? ⟨w.heap.size, 0, none⟩ = some (.slice A ni ci) := S1.out.b1.cell 0
  have c1 : w1.cell? ⟨w.heap.size, 1, none⟩ = some (.slice B nf cf) := S1.out.b1.cell 1
  have c2 : w1.cell? ⟨w.heap.size, 2, none⟩ = some (.int .i64 m) := S1.out.b1.cell 2
  have hl1 := S1.out.b1.lt
  clear BAD GOOD HF hok
  go_wp2_with fail
  refine (SC.out _ S1.out HNM.out).mono ?_
  rintro e w2 ⟨rfl, hb⟩
  have S2 := Lib.hid (WS.head (S1.out.only (Only.ofBelow hb)))
  have kc := fun (w : World) (C : Array Value) (n c : Nat) => Lib.run_convert_bytes_const (P := Try.prog) w 28 5 C n c Try.underlying28 Try.underlying5
  have hsz : (enc ni X nf Fs m).length ≤ 268435456 := by
    rw [EL.out]
    have := HF2.out nf (Nat.le_refl _)
    have := HI.out ni
    omega
  have d1 : w2.cell? ⟨w.heap.size, 1, none⟩ = some (.slice B nf cf) := (S1.out.only (Only.ofBelow hb)).b1.cell 1
  have d2 : w2.cell? ⟨w.heap.size, 2, none⟩ = some (.int .i64 m) := (S1.out.only (Only.ofBelow hb)).b1.cell 2
  have hl2 := (S1.out.only (Only.ofBelow hb)).b1.lt
  clear hb SC S1 c0 c1 c2 hl1 EL
  generalize (enc ni X nf Fs m).length = z at *
  go_wp2_with fail
  have LA := Lib.hid (WS.first HG.out (S2.out.1.only ((Only.refl _ _).drew)) (show Mk _ _ _ _ from S2.out.2) (n := (nf : Int)) (s := 4) ⟨by omega, by omega⟩ (size := 4) (by omega) (by omega) rfl (by simp))
  have LB := Lib.hid (fun w' v' (h : WS w w' G A ni X B nf Fs #[.slice A ni ci, .slice B nf cf, .int .i64 m] v' ([113, 114, 49, 54] ++ lowB nf 4)) => h.lowc HG.out (n := m) (s := 4) ⟨m1, m2⟩ (size := 4) (by omega) rfl (by simp [lowB_length]))
  have k1 : (w2.alloc (.cells #[.int .u8 113, .int .u8 114, .int .u8 49, .int .u8 54] 5 (4, 5))).cell? ⟨w.heap.size, 1, none⟩ = some (.slice B nf cf) := S2.out.1.b1.cell 1
  have k2 : (w2.alloc (.cells #[.int .u8 113, .int .u8 114, .int .u8 49, .int .u8 54] 5 (4, 5))).cell? ⟨w.heap.size, 2, none⟩ = some (.int .i64 m) := S2.out.1.b1.cell 2
  go_region_held3 (fun w' => w'.cell? ⟨w.heap.size, 1, none⟩ = some (.slice B nf cf) ∧ w'.cell? ⟨w.heap.size, 2, none⟩ = some (.int .i64 m))
    (first | (go_keep; done) | (go_split_ands; first | exact ⟨e3, e4⟩ | exact ⟨e1, e2⟩))
    ((first
      | (have X3 := S3; go_at_call 26; refine (LB.out _ _ X3.out).mono ?_; rintro e w4 ⟨v4, rfl, hw4, ho4⟩; have S4 := Lib.hid hw4; have e3 : w4.cell? ⟨w.heap.size, 1, none⟩ = some (.slice B nf cf) := S4.out.ds.b1.cell 1; have e4 : w4.cell? ⟨w.heap.size, 2, none⟩ = some (.int .i64 m) := S4.out.ds.b1.cell 2; clear hw4 ho4)
      | (go_at_call 26; refine LA.out.mono ?_; rintro e w3 ⟨v3, rfl, hw3⟩; have S3 := Lib.hid hw3; have e1 : w3.cell? ⟨w.heap.size, 1, none⟩ = some (.slice B nf cf) := S3.out.ds.b1.cell 1; have e2 : w3.cell? ⟨w.heap.size, 2, none⟩ = some (.int .i64 m) := S3.out.ds.b1.cell 2; clear hw3)))
  have S5 : Hid (WS w w4 G A ni X B nf Fs #[.slice A ni ci, .slice B nf cf, .int .i64 m] v4 (headB nf m ++ fnsB Fs 0)) := by show WS w w4 G A ni X B nf Fs #[.slice A ni ci, .slice B nf cf, .int .i64 m] v4 (headB nf m ++ fnsB Fs 0); rw [fnsB, List.append_nil]; exact S4.out
  have HL1 : Hid (∀ k, k ≤ nf → (headB nf m ++ fnsB Fs k).length ≤ 8000000) := fun k hk => by
    have := HF2.out k hk
    simp only [headB, List.length_append, lowB_length, List.length_cons, List.length_nil]
    omega
  clear LA LB k1 k2 S2 S3 S4 e1 e2 e3 e4 X3 kc d1 d2 hl2
  go_wp2_with fail
  go_loopw [5, 36] (fun vv kv wx => ∃ k : Nat, k ≤ nf ∧ kv = .int .i64 (k : Int) ∧ Hid (WS w wx G A ni X B nf Fs #[.slice A ni ci, .slice B nf cf, .int .i64 m] vv (headB nf m ++ fnsB Fs k))) (fun _ kv _ => nf - (intOf kv).toNat)
  case atStart => exact ⟨0, by omega, rfl, S5⟩
  case round =>
    clear S5
    obtain ⟨k, hk, rfl, S⟩ := hrel
    by_cases hlt : k < nf
    · obtain ⟨hin, hsz, b, off, rfl, _, hbl, k0, k1, k2, k3, k4⟩ := S.out.ds.fl.2 k hlt
      have S2 := Lib.hid (S.out.alloc (.cells #[.string (Fs k).name, .int .i64 (Fs k).frame, .int .i64 (Fs k).first, .int .i64 (Fs k).count, .int .i64 (Fs k).params] 53))
      have BF := Lib.hid (Blk.new wr 53 #[.string (Fs k).name, .int .i64 (Fs k).frame, .int .i64 (Fs k).first, .int .i64 (Fs k).count, .int .i64 (Fs k).params])
      have HL2 : Hid ((headB nf m ++ fnsB Fs k).length ≤ 1000000000) := by have := HL1.out k hk; show _ ≤ _; omega
      have hz := HNM.out k hlt
      have hlw := S2.out.ds.b1.lt
      have HH : Hid (w.heap.size + 1 ≤ (wr.alloc (.cells #[.string (Fs k).name, .int .i64 (Fs k).frame, .int .i64 (Fs k).first, .int .i64 (Fs k).count, .int .i64 (Fs k).params] 53)).heap.size) := hlw
      have HN : Hid ((wr.alloc (.cells #[.string (Fs k).name, .int .i64 (Fs k).frame, .int .i64 (Fs k).first, .int .i64 (Fs k).count, .int .i64 (Fs k).params] 53)).heap.size = wr.heap.size + 1) := by show _ = _; simp
      have ST := Lib.hid (fun w' v' (h : WS w w' G A ni X (some ⟨b, off, none⟩) nf Fs #[.slice A ni ci, .slice (some ⟨b, off, none⟩) nf cf, .int .i64 m] v' (headB nf m ++ fnsB Fs k ++ [u8 (Fs k).name.size])) => h)
      have HL3 : Hid ((headB nf m ++ fnsB Fs k ++ [u8 (Fs k).name.size]).length + (Fs k).name.size ≤ 1000000000) := by
        have := HL1.out k hk
        show _ ≤ _
        simp only [List.length_append, List.length_cons, List.length_nil] at this ⊢
        omega
      have HL4 : Hid ((headB nf m ++ fnsB Fs k ++ [u8 (Fs k).name.size] ++ (Fs k).name.data.toList).length ≤ 999999000 ∧ (headB nf m ++ fnsB Fs k ++ [u8 (Fs k).name.size] ++ (Fs k).name.data.toList ++ lowB (Fs k).frame 8).length ≤ 999999000 ∧ (headB nf m ++ fnsB Fs k ++ [u8 (Fs k).name.size] ++ (Fs k).name.data.toList ++ lowB (Fs k).frame 8 ++ lowB (Fs k).count 4).length ≤ 999999000) := by
        have := HL1.out k hk
        have e : (Fs k).name.data.toList.length = (Fs k).name.size := by rw [Array.length_toList]; rfl
        show _ ∧ _ ∧ _
        simp only [List.length_append, lowB_length, e, List.length_cons, List.length_nil] at this ⊢
        omega
      have HU : Hid (((u8 (Fs k).name.size).toNat : Int) = ((Fs k).name.size : Int)) := by have := u8_int (Fs k).name.size; show _ = _; omega
      obtain ⟨⟨i1, i2⟩, ⟨i3, i4⟩, ⟨i5, i6⟩, ⟨i7, i8⟩⟩ := id hin
      have HIN := Lib.hid hin
      clear hin S hlw HL1 HF2 HI GOOD2 HNM
      go_wp2_with (first
        | (have X4 := SP; at_builtin; go_must (refine wpList_pushS rfl (.tmp 47) (.tmp 49) rfl (Fs k).name rfl X4.out.br (by have := X4.out.ds.b1.lt; omega) rfl HL3.out ?_); go_must (intro v4' w4' hb4 ho4; have S4 := Lib.hid (X4.out.own HG.out ho4 hb4); have BF4 := Lib.hid (X4.out.blk BF3.out (by decide) ho4); have q1 : w4'.cell? ⟨wr.heap.size, 1, none⟩ = some (.int .i64 (Fs k).frame) := BF4.out.cell 1; have q3 : w4'.cell? ⟨wr.heap.size, 3, none⟩ = some (.int .i64 (Fs k).count) := BF4.out.cell 3; have q4 : w4'.cell? ⟨wr.heap.size, 4, none⟩ = some (.int .i64 (Fs k).params) := BF4.out.cell 4; clear hb4 ho4))
        | (at_builtin; go_must (refine wpList_pushN rfl (.tmp 40) (.tmp 45) rfl (u8 (Fs k).name.size) rfl S2.out.br HH.out (wr.heap.size + 1) HN.out rfl HU.out HL2.out ?_); go_must (intro v3' w3' hb3 ho3; have SP := Lib.hid (S2.out.own HG.out ho3 hb3); have BF3 := Lib.hid (S2.out.blk BF.out (by decide) ho3); have q0 : w3'.cell? ⟨wr.heap.size, 0, none⟩ = some (.string (Fs k).name) := BF3.out.cell 0; clear hb3 ho3)))
      have LA := Lib.hid (S4.out.drew.lowc HG.out (n := (Fs k).frame) (s := 8) ⟨i1, i2⟩ (size := 8) (by omega) rfl HL4.out.1)
      have LB := Lib.hid (fun w' v' (h : WS w w' G A ni X (some ⟨b, off, none⟩) nf Fs #[.slice A ni ci, .slice (some ⟨b, off, none⟩) nf cf, .int .i64 m] v' (headB nf m ++ fnsB Fs k ++ [u8 (Fs k).name.size] ++ (Fs k).name.data.toList ++ lowB (Fs k).frame 8)) => h.lowc HG.out (n := (Fs k).count) (s := 4) ⟨i5, i6⟩ (size := 4) (by omega) rfl HL4.out.2.1)
      have LC := Lib.hid (fun w' v' (h : WS w w' G A ni X (some ⟨b, off, none⟩) nf Fs #[.slice A ni ci, .slice (some ⟨b, off, none⟩) nf cf, .int .i64 m] v' (headB nf m ++ fnsB Fs k ++ [u8 (Fs k).name.size] ++ (Fs k).name.data.toList ++ lowB (Fs k).frame 8 ++ lowB (Fs k).count 4)) => h.lowc HG.out (n := (Fs k).params) (s := 1) ⟨i7, i8⟩ (size := 1) (by omega) rfl HL4.out.2.2)
      clear BF BF3 S2 SP HU HL2 HL3 HL4 k0 k1 k2 k3 k4 q0 ST
      go_region_held3 (fun w' => w'.cell? ⟨wr.heap.size, 1, none⟩ = some (.int .i64 (Fs k).frame) ∧ w'.cell? ⟨wr.heap.size, 3, none⟩ = some (.int .i64 (Fs k).count) ∧ w'.cell? ⟨wr.heap.size, 4, none⟩ = some (.int .i64 (Fs k).params))
        (first | (go_keep; done) | (go_split_ands; first | exact ⟨s1, s3, s4⟩ | exact ⟨r1, r3, r4⟩ | exact ⟨p1, p3, p4⟩))
        ((first
          | (have X6 := S6; have Y6 := B6; go_at_call 26; refine (LC.out _ _ X6.out).mono ?_; rintro e w7 ⟨v7, rfl, hw7, ho7⟩; have S7 := Lib.hid hw7; have B7 := Lib.hid (X6.out.blk Y6.out (by decide) ho7); have s1 : w7.cell? ⟨wr.heap.size, 1, none⟩ = some (.int .i64 (Fs k).frame) := B7.out.cell 1; have s3 : w7.cell? ⟨wr.heap.size, 3, none⟩ = some (.int .i64 (Fs k).count) := B7.out.cell 3; have s4 : w7.cell? ⟨wr.heap.size, 4, none⟩ = some (.int .i64 (Fs k).params) := B7.out.cell 4; clear hw7 ho7)
          | (have X5 := S5; have Y5 := B5; go_at_call 26; refine (LB.out _ _ X5.out).mono ?_; rintro e w6 ⟨v6, rfl, hw6, ho6⟩; have S6 := Lib.hid hw6; have B6 := Lib.hid (X5.out.blk Y5.out (by decide) ho6); have r1 : w6.cell? ⟨wr.heap.size, 1, none⟩ = some (.int .i64 (Fs k).frame) := B6.out.cell 1; have r3 : w6.cell? ⟨wr.heap.size, 3, none⟩ = some (.int .i64 (Fs k).count) := B6.out.cell 3; have r4 : w6.cell? ⟨wr.heap.size, 4, none⟩ = some (.int .i64 (Fs k).params) := B6.out.cell 4; clear hw6 ho6)
          | (go_at_call 26; refine LA.out.mono ?_; rintro e w5 ⟨v5, rfl, hw5, ho5⟩; have S5 := Lib.hid hw5; have B5 := Lib.hid (S4.out.drew.blk (BF4.out.drew) (by decide) ho5); have p1 : w5.cell? ⟨wr.heap.size, 1, none⟩ = some (.int .i64 (Fs k).frame) := B5.out.cell 1; have p3 : w5.cell? ⟨wr.heap.size, 3, none⟩ = some (.int .i64 (Fs k).count) := B5.out.cell 3; have p4 : w5.cell? ⟨wr.heap.size, 4, none⟩ = some (.int .i64 (Fs k).params) := B5.out.cell 4; clear hw5 ho5)))
      have SN : Hid (WS w w7 G A ni X (some ⟨b, off, none⟩) nf Fs #[.slice A ni ci, .slice (some ⟨b, off, none⟩) nf cf, .int .i64 m] v7 (headB nf m ++ fnsB Fs (k + 1))) := by
        show WS w w7 G A ni X (some ⟨b, off, none⟩) nf Fs #[.slice A ni ci, .slice (some ⟨b, off, none⟩) nf cf, .int .i64 m] v7 (headB nf m ++ fnsB Fs (k + 1))
        have e : headB nf m ++ fnsB Fs (k + 1) = headB nf m ++ fnsB Fs k ++ [u8 (Fs k).name.size] ++ (Fs k).name.data.toList ++ lowB (Fs k).frame 8 ++ lowB (Fs k).count 4 ++ lowB (Fs k).params 1 := by simp [fnsB, fnB, List.append_assoc]
        rw [e]
        exact S7.out
      clear LA LB LC S4 S5 S6 S7 B5 B6 B7 X4 X5 X6 Y5 Y6 p1 p3 p4 r1 r3 r4 s1 s3 s4 BF4 q1 q3 q4
      go_wp2_with fail
      go_roundw
      case rel => exact ⟨k + 1, by omega, by go_num, SN⟩
      case measure => first | (simp [intOf]; done) | (simp [intOf]; omega)
    · have hkn : k = nf := by omega
      subst hkn
      have cA : wr.cell? ⟨w.heap.size, 0, none⟩ = some (.slice A ni ci) := S.out.ds.b1.cell 0
      have hlb := S.out.ds.b1.lt
      go_wp2_with fail
      have HL0 := HL1.out k (Nat.le_refl _)
      have GOOD3 : Hid (∀ (w' : World) (v : Value), WS w w' G A ni X B k Fs #[.slice A ni ci, .slice B k cf, .int .i64 m] v (headB k m ++ fnsB Fs k ++ inssB X ni) → WritePost ni X k Fs m w (.returned (.tuple #[v, .int .i64 0])) w') := GOOD2.out
      have S6 : Hid (WS w wr G A ni X B k Fs #[.slice A ni ci, .slice B k cf, .int .i64 m] u5 (headB k m ++ fnsB Fs k ++ inssB X 0)) := by
        show WS w wr G A ni X B k Fs #[.slice A ni ci, .slice B k cf, .int .i64 m] u5 (headB k m ++ fnsB Fs k ++ inssB X 0)
        rw [inssB, List.append_nil]; exact S.out
      clear cA hlb S GOOD2 HL1 HF2 HNM
      generalize headB k m ++ fnsB Fs k = l0 at *
      go_loopw [5, 65] (fun vv jv wx => ∃ j : Nat, j ≤ ni ∧ jv = .int .i64 (j : Int) ∧ Hid (WS w wx G A ni X B k Fs #[.slice A ni ci, .slice B k cf, .int .i64 m] vv (l0 ++ inssB X j))) (fun _ jv _ => ni - (intOf jv).toNat)
      case atStart => exact ⟨0, by omega, rfl, S6⟩
      case round =>
        clear S6
        obtain ⟨j, hj, rfl, S⟩ := hrel
        by_cases hjt : j < ni
        · obtain ⟨hin, b, off, rfl, _, hbl, k0, k1, k2, k3, k4⟩ := S.out.ds.il.2 j hjt
          have UC := Lib.hid (fun w' => shape_c (X j).op hin.op w')
          obtain ⟨q1, q2, q3⟩ := shape_cases (X j).op
          have S2 := Lib.hid (S.out.alloc (.cells #[.int .i64 (X j).op, .int .i64 (X j).a, .int .i64 (X j).b, .int .i64 (X j).c, .int .i64 (X j).n] 41))
          have BI := Lib.hid (Blk.new wr 41 #[.int .i64 (X j).op, .int .i64 (X j).a, .int .i64 (X j).b, .int .i64 (X j).c, .int .i64 (X j).n])
          have hib := HI.out j
          have HL2 : Hid ((l0 ++ inssB X j).length ≤ 900000000) := by show _ ≤ _; rw [List.length_append]; omega
          have hlw := S2.out.ds.b1.lt
          have HH : Hid (w.heap.size + 1 ≤ (wr.alloc (.cells #[.int .i64 (X j).op, .int .i64 (X j).a, .int .i64 (X j).b, .int .i64 (X j).c, .int .i64 (X j).n] 41)).heap.size) := hlw
          have HN : Hid ((wr.alloc (.cells #[.int .i64 (X j).op, .int .i64 (X j).a, .int .i64 (X j).b, .int .i64 (X j).c, .int .i64 (X j).n] 41)).heap.size = wr.heap.size + 1) := by show _ = _; simp
          have HU := Lib.hid (u8_int (X j).op)
          have HL3 : Hid (∀ i, i ≤ 3 → (l0 ++ inssB X j ++ [u8 (X j).op] ++ regsB (X j) i).length ≤ 999999000) := fun i hi => by
            have := HL2.out
            simp only [List.length_append, List.length_cons, List.length_nil, regsB_length] at this ⊢
            omega
          obtain ⟨i1, i2⟩ := id hin.n
          have INS : Hid (inssB X (j + 1) = inssB X j ++ (u8 (X j).op :: (regsB (X j) (regsOf (X j).op) ++ if wideOf (X j).op then lowB (X j).n 8 else []))) := rfl
          have HG2 := Lib.hid (fun (w2 : World) (v2 : Value) (l2 : List UInt8) (hh : WS w w2 G (some ⟨b, off, none⟩) ni X B k Fs #[.slice (some ⟨b, off, none⟩) ni ci, .slice B k cf, .int .i64 m] v2 (l2)) => hh.quiet ((Only.refl _ w2).alloc (.cells (lV (regN (X j))) 3)))
          have R0 : Hid (regN (X j) 0 = (X j).a ∧ regN (X j) 1 = (X j).b ∧ regN (X j) 2 = (X j).c) := ⟨rfl, rfl, rfl⟩
          rw [q1, q3] at UC
          clear S hlw hib q1 q3 hin
          generalize regsOf (X j).op = r at *
          go_wp2_with (first
            | (go_at_call 27; refine (UC.out _).mono ?_; rintro e w2' ⟨rfl, hw2⟩; subst w2')
            | (at_builtin; go_must (refine wpList_pushN rfl (.tmp 76) (.tmp 80) rfl (u8 (X j).op) rfl S2.out.br HH.out (wr.heap.size + 1) HN.out rfl HU.out (by have := HL2.out; omega) ?_); go_must (intro v3' w3' hb3 ho3; have S3 := Lib.hid (S2.out.own HG.out ho3 hb3); have BI3 := Lib.hid (S2.out.blk BI.out (by decide) ho3); have p1 : w3'.cell? ⟨wr.heap.size, 1, none⟩ = some (.int .i64 (X j).a) := BI3.out.cell 1; have p2 : w3'.cell? ⟨wr.heap.size, 2, none⟩ = some (.int .i64 (X j).b) := BI3.out.cell 2; have p3 : w3'.cell? ⟨wr.heap.size, 3, none⟩ = some (.int .i64 (X j).c) := BI3.out.cell 3; clear hb3 ho3)))
          have S4 := Lib.hid (S3.out.quiet ((Only.refl _ w3').alloc (.cells #[.int .i64 (X j).a, .int .i64 (X j).b, .int .i64 (X j).c] 3)))
          have BI4 := Lib.hid (BI3.out.alloc (.cells #[.int .i64 (X j).a, .int .i64 (X j).b, .int .i64 (X j).c] 3))
          have BR4 : Hid (Blk (w3'.alloc (.cells #[.int .i64 (X j).a, .int .i64 (X j).b, .int .i64 (X j).c] 3)) w3'.heap.size 3 (lV (regN (X j)))) := Blk.new w3' 3 _
          have S5 : Hid (WS w (w3'.alloc (.cells #[.int .i64 (X j).a, .int .i64 (X j).b, .int .i64 (X j).c] 3)) G (some ⟨b, off, none⟩) ni X B k Fs #[.slice (some ⟨b, off, none⟩) ni ci, .slice B k cf, .int .i64 m] v3' (l0 ++ inssB X j ++ [u8 (X j).op] ++ regsB (X j) 0)) := by
            show WS w (w3'.alloc (.cells #[.int .i64 (X j).a, .int .i64 (X j).b, .int .i64 (X j).c] 3)) G (some ⟨b, off, none⟩) ni X B k Fs #[.slice (some ⟨b, off, none⟩) ni ci, .slice B k cf, .int .i64 m] v3' (l0 ++ inssB X j ++ [u8 (X j).op] ++ regsB (X j) 0)
            rw [regsB, List.append_nil]
            exact S4.out
          clear S2 S3 S4 BI BI3 p1 p2 p3 k0 k1 k2 k3 k4 UC HU HN HH HG2 R0
          obtain ⟨wo, rfl⟩ : ∃ x, x = wr := ⟨_, rfl⟩
          go_loopw [5, 92] (fun vv iv wx => ∃ i : Nat, i ≤ r ∧ iv = .int .i64 (i : Int) ∧ Hid (WS w wx G (some ⟨b, off, none⟩) ni X B k Fs #[.slice (some ⟨b, off, none⟩) ni ci, .slice B k cf, .int .i64 m] vv (l0 ++ inssB X j ++ [u8 (X j).op] ++ regsB (X j) i)) ∧ Hid (Blk wx wo.heap.size 41 #[.int .i64 (X j).op, .int .i64 (X j).a, .int .i64 (X j).b, .int .i64 (X j).c, .int .i64 (X j).n]) ∧ Hid (Blk wx w3'.heap.size 3 (lV (regN (X j))))) (fun _ iv _ => r - (intOf iv).toNat)
          case atStart => exact ⟨0, by omega, rfl, S5, BI4, BR4⟩
          case round =>
            clear S5 BI4 BR4
            obtain ⟨i, hi, rfl, S, BI, BR3⟩ := hrel
            have hl3 := BR3.out.lt
            by_cases hit : i < r
            · have cr : wr.cell? ⟨w3'.heap.size, i, none⟩ = some (.int .i64 (regN (X j) i)) := (BR3.out.cell i).trans (lV_at _ i (by omega))
              have HU := Lib.hid (u8_int (regN (X j) i))
              have HL4 := Lib.hid (HL3.out i (by omega))
              have hlw := S.out.ds.b1.lt
              have RS : Hid (regsB (X j) (i + 1) = regsB (X j) i ++ [u8 (regN (X j) i)]) := rfl
              generalize regN (X j) i = x at *
              go_wp2_with (first
                | (at_builtin; go_must (refine wpList_pushN rfl (.tmp 96) (.tmp 99) rfl (u8 x) rfl S.out.br (by omega) wr.heap.size rfl rfl HU.out (by have := HL4.out; omega) ?_); go_must (intro v5' w5' hb5 ho5; have S5 := Lib.hid (S.out.own HG.out ho5 hb5); have BI5 := Lib.hid (S.out.blk BI.out (by decide) ho5); have BR5 := Lib.hid (S.out.blk BR3.out (by decide) ho5); clear hb5 ho5)))
              have S6 : Hid (WS w w5' G (some ⟨b, off, none⟩) ni X B k Fs #[.slice (some ⟨b, off, none⟩) ni ci, .slice B k cf, .int .i64 m] v5' (l0 ++ inssB X j ++ [u8 (X j).op] ++ regsB (X j) (i + 1))) := by
                show WS w w5' G (some ⟨b, off, none⟩) ni X B k Fs #[.slice (some ⟨b, off, none⟩) ni ci, .slice B k cf, .int .i64 m] v5' (l0 ++ inssB X j ++ [u8 (X j).op] ++ regsB (X j) (i + 1))
                rw [RS.out, ← List.append_assoc]
                exact S5.out
              clear S5
              go_roundw
              case rel => exact ⟨i + 1, by omega, by go_num, S6, BI5, BR5⟩
              case measure => first | (simp [intOf]; done) | (simp [intOf]; omega)
            · have hir : i = r := by omega
              subst hir
              have p4 : wr.cell? ⟨wo.heap.size, 4, none⟩ = some (.int .i64 (X j).n) := BI.out.cell 4
              have hl4 := BI.out.lt
              have HL4 := Lib.hid (HL3.out i (by omega))
              cases hw : wideOf (X j).op with
              | true =>
                rw [hw] at INS
                have LW := Lib.hid (fun w' v' (h : WS w w' G (some ⟨b, off, none⟩) ni X B k Fs #[.slice (some ⟨b, off, none⟩) ni ci, .slice B k cf, .int .i64 m] v' (l0 ++ inssB X j ++ [u8 (X j).op] ++ regsB (X j) i)) => h.lowc HG.out (n := (X j).n) (s := 8) ⟨i1, i2⟩ (size := 8) (by omega) rfl HL4.out)
                clear BI BR3 HL3 HL4 HL2
                go_wp2_with (first | (go_at_call 26; refine (LW.out _ _ S.out).mono ?_; rintro e w6' ⟨v6', rfl, hw6, ho6⟩; have S6 := Lib.hid hw6; clear hw6 ho6))
                have S7 : Hid (WS w w6' G (some ⟨b, off, none⟩) ni X B k Fs #[.slice (some ⟨b, off, none⟩) ni ci, .slice B k cf, .int .i64 m] v6' (l0 ++ inssB X (j + 1))) := by
                  show WS w w6' G (some ⟨b, off, none⟩) ni X B k Fs #[.slice (some ⟨b, off, none⟩) ni ci, .slice B k cf, .int .i64 m] v6' (l0 ++ inssB X (j + 1))
                  have e : l0 ++ inssB X (j + 1) = l0 ++ inssB X j ++ [u8 (X j).op] ++ regsB (X j) i ++ lowB (X j).n 8 := by rw [INS.out]; simp only [if_true, if_pos]; simp only [List.append_assoc, List.cons_append, List.nil_append]
                  rw [e]
                  exact S6.out
                clear S6
                go_roundw
                case rel => exact ⟨j + 1, by omega, by go_num, S7⟩
                case measure => first | (simp [intOf]; done) | (simp [intOf]; omega)
              | false =>
                rw [hw] at INS
                have S7 : Hid (WS w wr G (some ⟨b, off, none⟩) ni X B k Fs #[.slice (some ⟨b, off, none⟩) ni ci, .slice B k cf, .int .i64 m] u5 (l0 ++ inssB X (j + 1))) := by
                  show WS w wr G (some ⟨b, off, none⟩) ni X B k Fs #[.slice (some ⟨b, off, none⟩) ni ci, .slice B k cf, .int .i64 m] u5 (l0 ++ inssB X (j + 1))
                  have e : l0 ++ inssB X (j + 1) = l0 ++ inssB X j ++ [u8 (X j).op] ++ regsB (X j) i := by rw [INS.out]; simp only [Bool.false_eq_true, if_false]; simp only [List.append_assoc, List.cons_append, List.nil_append, List.append_nil]
                  rw [e]
                  exact S.out
                clear S BI BR3 HL3 HL4 HL2
                go_wp2_with fail
                go_roundw
                case rel => exact ⟨j + 1, by omega, by go_num, S7⟩
                case measure => first | (simp [intOf]; done) | (simp [intOf]; omega)
        · have hjn : j = ni := by omega
          subst hjn
          have E := Lib.hid (GOOD3.out _ _ S.out)
          clear S GOOD3
          go_wp2_with fail
          go_ret2
          exact E.out
end Go.Proofs.Ytafhjpehkfcmjaa
