/- CodeRead: the walks. -/
import Derived.Test.YtafhjpehkfcmjaaW46
set_option linter.unusedVariables false
set_option linter.unusedSimpArgs false
namespace Go.Proofs.Ytafhjpehkfcmjaa
open Go.RowKit
attribute [local go_sem ↓] Go.wp_at_zero Go.wp_at_succ
theorem xor_u8 (x : Nat) : ∃ y : UInt8, bits BinOp.xor IntKind.u8 (x : Int) 1 = ((y.toNat : Nat) : Int) := by
  refine ⟨UInt8.ofNat (bits BinOp.xor IntKind.u8 (x : Int) 1).toNat, ?_⟩
  rw [UInt8.toNat_ofNat']
  have h : 0 ≤ bits BinOp.xor IntKind.u8 (x : Int) 1 ∧ bits BinOp.xor IntKind.u8 (x : Int) 1 < 256 := by
    unfold bits
    generalize (BitVec.ofInt IntKind.u8.bits (x : Int) ^^^ BitVec.ofInt IntKind.u8.bits 1).toNat = z
    simp [IntKind.wrap, IntKind.signed, IntKind.bits]
    omega
  omega
/-- The copy, and two answers. -/
structure RdS (w wr : World) (A : Option Addr) (L : Nat) (Bf : Nat → UInt8) (g cap : Nat) (l : List UInt8) (o : Out) (g1 : Nat) (A1 : Option Addr) (c1 : Nat) (B1 : Option Addr) (c2 : Nat) (g2 : Nat) (A2 : Option Addr) (c3 : Nat) (B2 : Option Addr) (c4 : Nat) : Prop where
  pb : PB w wr A L Bf none 0 (fun _ => 0)
  v : BR wr w.heap.size (.slice (some ⟨g, 0, none⟩) (L + 20) cap) l
  x : XB wr (fun b => g < b) g1 o A1 c1 B1 c2
  y : XB wr (fun b => g < b) g2 o A2 c3 B2 c4
  h1 : g < g1
  h2 : g < g2
section
variable {w wr w2 : World} {A : Option Addr} {L : Nat} {Bf : Nat → UInt8} {g cap : Nat} {l : List UInt8} {o : Out} {g1 : Nat} {A1 : Option Addr} {c1 : Nat} {B1 : Option Addr} {c2 : Nat} {g2 : Nat} {A2 : Option Addr} {c3 : Nat} {B2 : Option Addr} {c4 : Nat}
theorem RdS.on (h : RdS w wr A L Bf g cap l o g1 A1 c1 B1 c2 g2 A2 c3 B2 c4) (hb : Below wr.heap.size wr w2) : RdS w w2 A L Bf g cap l o g1 A1 c1 B1 c2 g2 A2 c3 B2 c4 :=
  ⟨h.pb.on hb, h.v.only (Only.ofBelow (F := fun _ => False) hb) (fun _ _ h => h), h.x.below hb, h.y.below hb, h.h1, h.h2⟩
theorem RdS.put (h : RdS w wr A L Bf g cap l o g1 A1 c1 B1 c2 g2 A2 c3 B2 c4) (hl : l.length = L + 20) (k : Nat) (b : UInt8) : RdS w (wr.setCell ⟨g, k, none⟩ (.int .u8 (b.toNat : Int))) A L Bf g cap (l.set k b) o g1 A1 c1 B1 c2 g2 A2 c3 B2 c4 := by
  have hg := (h.v.lt (b := g) rfl).1
  have o : Only (fun b => b = g) wr (wr.setCell ⟨g, k, none⟩ (.int .u8 (b.toNat : Int))) := (Only.refl (fun b => b = g) wr).setCell (.inl rfl) _
  have hb : Below w.heap.size wr (wr.setCell ⟨g, k, none⟩ (.int .u8 (b.toNat : Int))) := o.toBelow h.pb.below.size (fun k hk e => by omega)
  exact ⟨h.pb.at_ hb, h.v.put, h.x.only o (by have := h.h1; omega) (fun b _ hb e => by have : g < b := hb; omega), h.y.only o (by have := h.h2; omega) (fun b _ hb e => by have : g < b := hb; omega), h.h1, h.h2⟩
theorem RdS.lv (h : RdS w wr A L Bf g cap l o g1 A1 c1 B1 c2 g2 A2 c3 B2 c4) (hl : l.length = L + 20) {n : Nat} (hn : n ≤ L + 20) : BL wr (fun b => b < wr.heap.size) (some ⟨g, 0, none⟩) n (lstF l) := by
  have hv : BR wr w.heap.size (.slice (some ⟨g, 0, none⟩) (L + 20) cap) l := h.v
  exact hv.bl.less (by omega)
def RA (w : World) (s : ByteArray) (A : Option Addr) (L c : Nat) (g cap : Nat) (o : Out) (g1 : Nat) (A1 : Option Addr) (c1 : Nat) (B1 : Option Addr) (c2 : Nat) (g2 : Nat) (A2 : Option Addr) (c3 : Nat) (B2 : Option Addr) (c4 : Nat) : Prop :=
  w.cell? ⟨g1, 0, none⟩ = some (.slice A1 (outI o).length c1) ∧ w.cell? ⟨g1, 1, none⟩ = some (.slice B1 (outF o).length c2) ∧ w.cell? ⟨g1, 2, none⟩ = some (.int .i64 (outM o : Int)) ∧
  w.cell? ⟨g2, 0, none⟩ = some (.slice A2 (outI o).length c3) ∧ w.cell? ⟨g2, 1, none⟩ = some (.slice B2 (outF o).length c4) ∧ w.cell? ⟨g2, 2, none⟩ = some (.int .i64 (outM o : Int)) ∧
  (convert 28 9 (.slice (some ⟨g, 0, none⟩) L cap)).run Try.prog w = .ok (.string s) w ∧ (convert 28 9 (.slice A L c)).run Try.prog w = .ok (.string s) w
theorem RdS.ra (h : RdS w wr A L Bf g cap l o g1 A1 c1 B1 c2 g2 A2 c3 B2 c4) (hl : l.length = L + 20) (hB : ∀ i, i < L → lstF l i = Bf i) (c : Nat) : RA wr (nameOf (slc Bf 0 L)) A L c g cap o g1 A1 c1 B1 c2 g2 A2 c3 B2 c4 := by
  refine ⟨h.x.box.cell 0, h.x.box.cell 1, h.x.box.cell 2, h.y.box.cell 0, h.y.box.cell 1, h.y.box.cell 2, ?_, bytes_string0 h.pb.b1⟩
  rw [← slc_congr (B := lstF l) (B' := Bf) (a := 0) (n := L) (fun i _ hi => hB i (by omega))]
  exact bytes_string0 (h.lv hl (by omega))
end
set_option maxRecDepth 100000 in
set_option maxHeartbeats 16000000 in
theorem readlaw_c (w : World) (G : Nat → Prop) (A : Option Addr) (L c : Nat) (Bf : Nat → UInt8) (hB : BL w G A L Bf) (hc : L ≤ c) (hc2 : c ≤ 9223372036854775807) (hL : L ≤ 131072) :
    Calls Try.prog 15 #[.slice A L c] w fun e w' => e = .returned (.bool true) ∧ Below w.heap.size w w' := by
  have S0 : Hid (PB w w A L Bf none 0 (fun _ => 0)) := ⟨hB.now, fun i hi => absurd hi (Nat.not_lt_zero _), Below.refl _ _⟩
  clear hB
  have HN0 : Hid (([] : List UInt8).length + L = L) := Nat.zero_add L
  have HN1 : Hid (L ≤ 1000000000) := by show _ ≤ _; omega
  go_enter Try.func15, Try.ntmps15
  go_upto_region 4 with (at_builtin; go_must (refine wpList_bytes rfl (.const (.slice none 0 0)) (.tmp 22) rfl rfl (BR.nil _ w.heap.size) S0.out.below.size rfl S0.out.b1 L HN0.out HN1.out ?_); go_must (intro A5 cap5 w5 hv5 ho5 _; have S5 := Lib.hid (S0.out.on ho5.nil); have V5 := Lib.hid hv5; clear hv5 ho5 S0))
  clear HN0 HN1
  have V6 : Hid (BR w5 w.heap.size (.slice A5 L cap5) (slc Bf 0 L ++ spare 0)) := by show BR _ _ _ _; rw [show slc Bf 0 L ++ spare 0 = [] ++ slc Bf 0 L by simp [spare]]; exact V5.out
  clear V5
  generalize (Value.slice A5 L cap5) = vv0 at *
  go_loopw [4, 5] (fun vv iv wx => ∃ k : Nat, k ≤ 20 ∧ iv = .int .i64 (k : Int) ∧ Hid (PB w wx A L Bf none 0 (fun _ => 0)) ∧ Hid (BR wx w.heap.size vv (slc Bf 0 L ++ spare k))) (fun _ iv _ => 20 - (intOf iv).toNat)
  case atStart => exact ⟨0, by omega, rfl, S5, V6⟩
  case round =>
    clear S5 V6
    obtain ⟨k, hk, rfl, S, V⟩ := hrel
    by_cases hk2 : k < 20
    · have HU : Hid (((u8 (167 + (k : Int))).toNat : Int) = 167 + (k : Int)) := by have := u8_int (167 + (k : Int)); show _ = _; omega
      have LL : Hid ((slc Bf 0 L ++ spare k).length ≤ 1000000000) := by show _ ≤ _; rw [List.length_append, slc_length, spare_length]; omega
      have HSW : Hid (w.heap.size ≤ wr.heap.size) := S.out.below.size
      go_wp2_with (at_builtin; go_must (refine wpList_pushN rfl (.tmp 28) (.tmp 32) rfl (u8 (167 + (k : Int))) rfl V.out HSW.out wr.heap.size rfl rfl HU.out LL.out ?_); go_must (intro v2 w2 hb2 ho2; have S2 := Lib.hid (S.out.at_ (V.out.own_below HSW.out ho2)); have V2 := Lib.hid hb2; clear hb2 ho2 S V))
      have V3 : Hid (BR w2 w.heap.size v2 (slc Bf 0 L ++ spare (k + 1))) := by show BR _ _ _ _; rw [spare_succ, ← List.append_assoc]; exact V2.out
      clear V2
      go_roundw
      case rel => exact ⟨k + 1, by omega, by go_num, S2, V3⟩
      case measure => first | (simp [intOf]; done) | (simp [intOf]; omega)
    · obtain rfl : k = 20 := by omega
      have hl : (slc Bf 0 L ++ spare 20).length = L + 20 := by rw [List.length_append, slc_length, spare_length]
      have HB0 : Hid (∀ i, i < L → lstF (slc Bf 0 L ++ spare 20) i = Bf i) := fun i hi => lst_slc Bf L _ i hi
      have HB1 : Hid (∀ i, i < 20 → ((lstF (slc Bf 0 L ++ spare 20) (L + i)).toNat : Int) = 167 + (i : Int)) := fun i hi => by
        have := spare_at (slc Bf 0 L) 20 i hi (by omega)
        rw [slc_length] at this
        exact this
      obtain ⟨A6, cap6, e6, q1, q2, hg⟩ := own_shape V.out
      obtain ⟨g, rfl, hg1, hg2, _⟩ := hg (by omega)
      subst e6
      rw [hl] at V q1 ⊢
      generalize slc Bf 0 L ++ spare 20 = l at *
      unfold maxLen at q2
      have HV := Lib.hid hl
      have B1 : Hid (BL wr (fun b => b < wr.heap.size) (some ⟨g, 0, none⟩) L (lstF l)) := by
        have hv : BR wr w.heap.size (.slice (some ⟨g, 0, none⟩) (L + 20) cap6) l := V.out
        exact hv.bl.less (by omega)
      clear hg hl
      go_wp2_with fail
      refine (read_c wr _ (fun b h => h) (some ⟨g, 0, none⟩) L cap6 (lstF l) B1.out (by omega) (by omega) (by omega)).mono ?_
      intro e w7 hr
      have hr2 := read_one hr (by omega)
      rw [run_congr HB0.out pAll 0] at hr2
      generalize hO : run Bf L pAll 0 = o at *
      obtain ⟨A1, c1, D1, c2, rfl, hres, hb7⟩ := hr2
      have HO := Lib.hid hO
      have X8 := Lib.hid ((hres.more (G' := fun b => g < b) (fun b (h : wr.heap.size ≤ b) => (by omega : g < b))).box)
      have hbx := (Below.refl w7.heap.size w7).alloc (Nat.le_refl _) (.cells #[.slice A1 (outI o).length c1, .slice D1 (outF o).length c2, .int .i64 (outM o : Int)] 25)
      have S8 := Lib.hid ((S.out.on hb7).on hbx)
      have V8 : Hid (BR _ w.heap.size (.slice (some ⟨g, 0, none⟩) (L + 20) cap6) l) := (V.out.only (Only.ofBelow (F := fun _ => False) hb7) (fun _ _ h => h)).only (Only.ofBelow (F := fun _ => False) hbx) (fun _ _ h => h)
      have hg7 : g < w7.heap.size := Nat.lt_of_lt_of_le hg2 hb7.size
      clear hr hO hres hb7 hbx S V B1
      go_wp2_with fail
      generalize w7.alloc (.cells #[.slice A1 (outI o).length c1, .slice D1 (outF o).length c2, .int .i64 (outM o : Int)] 25) = w8 at *
      generalize w7.heap.size = g1 at *
      refine (dread_c w8 _ (fun b h => h) A L c Bf (S8.out.lt1 (Nat.le_refl _)) (by omega) hc hc2).mono ?_
      intro e w9 hr
      have hr2 := read_one hr (by omega)
      rw [HO.out] at hr2
      obtain ⟨A2, c3, D2, c4, rfl, hres, hb9⟩ := hr2
      have hg8 : g < w8.heap.size := (V8.out.lt (b := g) rfl).2
      have hg9 : g < w9.heap.size := Nat.lt_of_lt_of_le hg8 hb9.size
      have hbx := (Below.refl w9.heap.size w9).alloc (Nat.le_refl _) (.cells #[.slice A2 (outI o).length c3, .slice D2 (outF o).length c4, .int .i64 (outM o : Int)] 25)
      have R10 : Hid (RdS w (w9.alloc (.cells #[.slice A2 (outI o).length c3, .slice D2 (outF o).length c4, .int .i64 (outM o : Int)] 25)) A L Bf g cap6 l o g1 A1 c1 D1 c2 w9.heap.size A2 c3 D2 c4) :=
        ⟨(S8.out.on hb9).on hbx, (V8.out.only (Only.ofBelow (F := fun _ => False) hb9) (fun _ _ h => h)).only (Only.ofBelow (F := fun _ => False) hbx) (fun _ _ h => h), (X8.out.below hb9).below hbx, (hres.more (G' := fun b => g < b) (fun b (h : w8.heap.size ≤ b) => (by omega : g < b))).box, hg7, hg9⟩
      clear hr hres hb9 hbx S8 V8 X8 HO
      go_upto_region 9 with fail
      generalize w9.alloc (.cells #[.slice A2 (outI o).length c3, .slice D2 (outF o).length c4, .int .i64 (outM o : Int)] 25) = w10 at *
      generalize w9.heap.size = g2 at *
      have R11 : Hid (RdS w w10.drew A L Bf g cap6 l o g1 A1 c1 D1 c2 g2 A2 c3 D2 c4) := R10.out.on (Below.refl _ w10).drew
      have P10 := R10.out.ra HV.out HB0.out c
      have P11 := R11.out.ra HV.out HB0.out c
      unfold RA at P10 P11
      have hi1 : (0 : Int) ≤ (L : Int) := by omega
      have hi2 : (L : Int) ≤ (cap6 : Int) := by omega
      go_region_held3 (fun w' => w'.cell? ⟨g1, 0, none⟩ = some (.slice A1 (outI o).length c1) ∧ w'.cell? ⟨g1, 1, none⟩ = some (.slice D1 (outF o).length c2) ∧ w'.cell? ⟨g1, 2, none⟩ = some (.int .i64 (outM o : Int)) ∧ w'.cell? ⟨g2, 0, none⟩ = some (.slice A2 (outI o).length c3) ∧ w'.cell? ⟨g2, 1, none⟩ = some (.slice D2 (outF o).length c4) ∧ w'.cell? ⟨g2, 2, none⟩ = some (.int .i64 (outM o : Int)) ∧ (convert 28 9 (.slice (some ⟨g, 0, none⟩) L cap6)).run Try.prog w' = .ok (.string (nameOf (slc Bf 0 L))) w' ∧ (convert 28 9 (.slice A L c)).run Try.prog w' = .ok (.string (nameOf (slc Bf 0 L))) w')
        (first | (go_keep; done) | exact P12 | exact P11 | exact P10)
        ((first
          | (go_at_call 22; refine (num_c _ _).mono ?_; rintro e w9 ⟨rfl, rfl⟩)
          | (go_at_call 20; refine (R11.out.x.same R11.out.y).mono ?_; rintro e w12 ⟨rfl, hb12⟩; have R12 := Lib.hid (R11.out.on hb12); have P12 := R12.out.ra HV.out HB0.out c; unfold RA at P12; clear hb12)))
      clear P10 P11 P12 R10 R11 hi1 hi2
      go_upto_region 12 with fail
      go_loopw [12] (fun iv wx => ∃ k : Nat, k ≤ 20 ∧ iv = .int .i64 (k : Int) ∧ wx = w12) (fun iv _ => 20 - (intOf iv).toNat)
      case atStart => exact ⟨0, by omega, rfl, rfl⟩
      case round =>
        obtain ⟨k, hk, rfl, hw⟩ := hrel
        subst hw
        by_cases hk2 : k < 20
        · have ck : wr.cell? ⟨g, L + k, none⟩ = some (.int .u8 (167 + (k : Int))) := by
            obtain ⟨b0, off0, e0, _, _, kc⟩ := R12.out.lv HV.out (Nat.le_refl _) (L + k) (by omega)
            injection e0 with e0
            injection e0 with e0 e1 _
            subst e0 e1
            rw [Nat.zero_add, HB1.out k hk2] at kc
            exact kc
          have i1 : (0 : Int) ≤ (L : Int) + (k : Int) := by omega
          have i2 : (L : Int) + (k : Int) < ((L + 20 : Nat) : Int) := by omega
          have htn : ((L : Int) + (k : Int)).toNat = L + k := by omega
          go_wp2_with fail
          go_roundw
          case rel => exact ⟨k + 1, by omega, by go_num, by first | trivial | rfl⟩
          case measure => first | (simp [intOf]; done) | (simp [intOf]; omega)
        · obtain rfl : k = 20 := by omega
          go_upto_region 16 with fail
          go_upto_if 87 with fail
          go_cut [4] from 87 (fun cv wx => cv = .slice (some ⟨g, 0, none⟩) (L + 20) cap6 ∧ ∃ l' : List UInt8, l'.length = L + 20 ∧ Hid (RdS w wx A L Bf g cap6 l' o g1 A1 c1 D1 c2 g2 A2 c3 D2 c4))
          case first =>
            by_cases hL0 : 0 < L
            · have hq : ((L : Int) * 3).tdiv 4 = ((L * 3 / 4 : Nat) : Int) := by rw [Int.tdiv_eq_ediv_of_nonneg (by omega)]; omega
              have hlq : L * 3 / 4 < L := by omega
              generalize L * 3 / 4 = kk at *
              have ck : wr.cell? ⟨g, kk, none⟩ = some (.int .u8 ((lstF l kk).toNat : Int)) := by
                obtain ⟨b0, off0, e0, _, _, kc⟩ := R12.out.lv HV.out (Nat.le_refl _) kk (by omega)
                injection e0 with e0
                injection e0 with e0 e1 _
                subst e0 e1
                rw [Nat.zero_add] at kc
                exact kc
              have cz : wr.frozen? ⟨g, kk, none⟩ = false := by
                have hv : BR wr w.heap.size (.slice (some ⟨g, 0, none⟩) (L + 20) cap6) l := R12.out.v
                rw [← HV.out] at hv
                exact World.ownsRow.frozenAt hv kk
              obtain ⟨y, hy⟩ := xor_u8 (lstF l kk).toNat
              have R13 := Lib.hid (R12.out.put HV.out kk y)
              have hls : (l.set kk y).length = L + 20 := by rw [List.length_set, HV.out]
              have i1 : (0 : Int) ≤ (kk : Int) := by omega
              have i2 : (kk : Int) < ((L + 20 : Nat) : Int) := by omega
              go_wp2_with fail
              go_meet
              case rel => exact ⟨rfl, l.set kk y, hls, R13⟩
            · go_wp2_with fail
              go_meet
              case rel => exact ⟨rfl, l, HV.out, R12⟩
          case rest =>
          obtain ⟨rfl, l', hl', R13⟩ := hcut
          clear R12 HV HB0 HB1
          have HN0 : Hid (([] : List UInt8).length + L = L) := Nat.zero_add L
          have HN1 : Hid (L ≤ 1000000000) := by show _ ≤ _; omega
          have HS : Hid (BL wc (fun b => b < wc.heap.size) (some ⟨g, 0, none⟩) L (lstF l')) := R13.out.lv hl' (by omega)
          have hi2 : (L : Int) ≤ (cap6 : Int) := by omega
          go_wp2_with (at_builtin; go_must (refine wpList_bytes rfl (.const (.slice none 0 0)) (.tmp 102) rfl rfl (BR.nil _ wc.heap.size) (Nat.le_refl _) rfl HS.out L HN0.out HN1.out ?_); go_must (intro A7 cap7 w14 hv14 ho14 _; have R14 := Lib.hid (R13.out.on ho14.nil); have V14 := Lib.hid hv14; clear hv14 ho14 R13 HS))
          clear HN0 HN1
          refine (read_c w14 _ (fun b h => h) (some ⟨g, 0, none⟩) L cap6 (lstF l') (R14.out.lv hl' (by omega)) (by omega) (by omega) (by omega)).mono ?_
          intro e w15 hr
          have hr2 := read_one hr (by omega)
          generalize hO : run (lstF l') L pAll 0 = o2 at *
          obtain ⟨A3, c5, D3, c6, rfl, hres, hb15⟩ := hr2
          have HO := Lib.hid hO
          have X16 := Lib.hid ((hres.more (G' := fun _ => True) (fun b h => trivial)).box)
          have hbx := (Below.refl w15.heap.size w15).alloc (Nat.le_refl _) (.cells #[.slice A3 (outI o2).length c5, .slice D3 (outF o2).length c6, .int .i64 (outM o2 : Int)] 25)
          have R16 := Lib.hid ((R14.out.on hb15).on hbx)
          have V16 := Lib.hid (BR.only (BR.only V14.out (Only.ofBelow (F := fun _ => False) hb15) (fun _ _ h => h)) (Only.ofBelow (F := fun _ => False) hbx) (fun _ _ h => h))
          clear hr hO hres hb15 hbx R14 V14
          go_wp2_with fail
          generalize w15.alloc (.cells #[.slice A3 (outI o2).length c5, .slice D3 (outF o2).length c6, .int .i64 (outM o2 : Int)] 25) = w16 at *
          generalize w15.heap.size = g3 at *
          obtain ⟨A7', cap7', e7, q3, q4, _⟩ := own_shape V16.out
          injection e7 with e7 e7n e7'
          clear e7n
          subst e7 e7'
          have hll : ([] ++ slc (lstF l') 0 L).length = L := by rw [List.nil_append, slc_length]
          have hbl := V16.out.bl
          rw [hll] at hbl q3
          rw [List.nil_append] at hbl
          unfold maxLen at q4
          have hcg : ∀ i, i < L → lstF (slc (lstF l') 0 L) i = lstF l' i := fun i hi => by
            have := lst_slc (lstF l') L [] i hi
            rw [List.append_nil] at this
            exact this
          refine (dread_c w16 _ (fun b h => h) A7 L cap7 _ hbl (by omega) q3 (by omega)).mono ?_
          intro e w17 hr
          have hr2 := read_one hr (by omega)
          rw [run_congr hcg pAll 0, HO.out] at hr2
          obtain ⟨A4, c7, D4, c8, rfl, hres, hb17⟩ := hr2
          have hbx := (Below.refl w17.heap.size w17).alloc (Nat.le_refl _) (.cells #[.slice A4 (outI o2).length c7, .slice D4 (outF o2).length c8, .int .i64 (outM o2 : Int)] 25)
          have X18 := Lib.hid ((hres.more (G' := fun _ => True) (fun b h => trivial)).box)
          have X17 := Lib.hid ((X16.out.below hb17).below hbx)
          have R18 := Lib.hid ((R16.out.on hb17).on hbx)
          clear hr hres hb17 hbx R16 V16 X16 HO hbl hcg hll
          go_upto_region 21 with fail
          generalize w17.alloc (.cells #[.slice A4 (outI o2).length c7, .slice D4 (outF o2).length c8, .int .i64 (outM o2 : Int)] 25) = w18 at *
          generalize w17.heap.size = g4 at *
          have k30 : w18.cell? ⟨g3, 0, none⟩ = some (.slice A3 (outI o2).length c5) := X17.out.box.cell 0
          have k31 : w18.cell? ⟨g3, 1, none⟩ = some (.slice D3 (outF o2).length c6) := X17.out.box.cell 1
          have k32 : w18.cell? ⟨g3, 2, none⟩ = some (.int .i64 (outM o2 : Int)) := X17.out.box.cell 2
          have k40 : w18.cell? ⟨g4, 0, none⟩ = some (.slice A4 (outI o2).length c7) := X18.out.box.cell 0
          have k41 : w18.cell? ⟨g4, 1, none⟩ = some (.slice D4 (outF o2).length c8) := X18.out.box.cell 1
          have k42 : w18.cell? ⟨g4, 2, none⟩ = some (.int .i64 (outM o2 : Int)) := X18.out.box.cell 2
          go_wp2_with (first
            | (go_at_call 22; refine (num_d _ _).mono ?_; rintro e w9 ⟨rfl, rfl⟩)
            | (have Y18 := R18; go_at_call 20; refine (X17.out.same X18.out).mono ?_; rintro e w20 ⟨rfl, hb20⟩; have R20 := Lib.hid (R18.out.on hb20); have k10 : w20.cell? ⟨g1, 0, none⟩ = some (.slice A1 (outI o).length c1) := R20.out.x.box.cell 0; have k11 : w20.cell? ⟨g1, 1, none⟩ = some (.slice D1 (outF o).length c2) := R20.out.x.box.cell 1; have k12 : w20.cell? ⟨g1, 2, none⟩ = some (.int .i64 (outM o : Int)) := R20.out.x.box.cell 2; have k20 : w20.cell? ⟨g2, 0, none⟩ = some (.slice A2 (outI o).length c3) := R20.out.y.box.cell 0; have k21 : w20.cell? ⟨g2, 1, none⟩ = some (.slice D2 (outF o).length c4) := R20.out.y.box.cell 1; have k22 : w20.cell? ⟨g2, 2, none⟩ = some (.int .i64 (outM o : Int)) := R20.out.y.box.cell 2; clear hb20 R18 k30 k31 k32 k40 k41 k42)
            | (go_at_call 20; refine (R20.out.x.same R20.out.y).mono ?_; rintro e w21 ⟨rfl, hb21⟩; have B21 := Lib.hid (R20.out.on hb21).pb.below; clear hb21 R20))
          go_ret
          exact ⟨rfl, B21.out⟩
set_option maxRecDepth 100000 in
set_option maxHeartbeats 16000000 in
theorem codeRead_c (w : World) (G : Nat → Prop) (A : Option Addr) (L c : Nat) (Bf : Nat → UInt8) (hB : BL w G A L Bf) (hc : L ≤ c) (hc2 : c ≤ 9223372036854775807) :
    Calls Try.prog 4 #[.slice A L c] w fun e w' => e = .returned (.bool true) ∧ Below w.heap.size w w' := by
  have HB := Lib.hid hB
  clear hB
  by_cases hL : L ≤ 131072
  · go_enter Try.func4, Try.ntmps4
    go_wp2_with fail
    refine (alive_c w).mono ?_
    rintro e w3 ⟨rfl, hb3⟩
    have B3 := Lib.hid hb3
    have HB3 := Lib.hid (HB.out.below hb3)
    clear hb3 HB
    go_wp2_with fail
    refine (readlaw_c w3 G A L c Bf HB3.out hc hc2 hL).mono ?_
    rintro e w4 ⟨rfl, hb4⟩
    have B4 := Lib.hid (B3.out.trans (hb4.mono B3.out.size))
    clear hb4 B3 HB3
    go_wp2_with fail
    go_ret
    exact ⟨rfl, B4.out⟩
  · clear HB
    go_enter Try.func4, Try.ntmps4
    go_wp2_with fail
    go_ret
    exact ⟨rfl, Below.refl _ _⟩
end Go.Proofs.Ytafhjpehkfcmjaa
