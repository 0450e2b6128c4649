/- the document's reader: name, bounds: the walks. -/
import Derived.Test.YtafhjpehkfcmjaaW30
set_option linter.unusedVariables false
set_option linter.unusedSimpArgs false
namespace Go.Proofs.Ytafhjpehkfcmjaa
open Go.RowKit
attribute [local go_sem ↓] Go.wp_at_zero Go.wp_at_succ
def NamePostD (Bf : Nat → UInt8) (L : Nat) (r : Nat) (bv : Value) (p u : Nat) (bad : Bool) (fs : List Fn) (w : World) (e : Ending) (w' : World) : Prop :=
  ∃ s p' bad', e = .returned (.string s) ∧ s.size ≤ 64 ∧ Blk w' r 78 (lcells bv p' bad') ∧ Only (fun b => b = r) w w' ∧ p' ≤ L ∧ ((bad = true ∧ bad' = true ∧ p' = p) ∨ (bad = false ∧ NamR Bf L p u fs s p' bad'))
theorem mem_fnF {fs : List Fn} {f : Fn} (h : f ∈ fs) : ∃ i, i < fs.length ∧ fnF fs i = f := by
  obtain ⟨i, hi, rfl⟩ := List.getElem_of_mem h
  exact ⟨i, hi, by unfold fnF; rw [List.getD_eq_getElem?_getD, List.getElem?_eq_getElem hi]; rfl⟩
theorem fnF_mem {fs : List Fn} {i : Nat} (hi : i < fs.length) : fnF fs i ∈ fs := by
  unfold fnF; rw [List.getD_eq_getElem?_getD, List.getElem?_eq_getElem hi]; exact List.getElem_mem hi
def NOk (fs : List Fn) (s : ByteArray) (i : Nat) (o : Bool) : Prop := o = true ↔ (NameOk s ∧ ∀ j, j < i → (fnF fs j).name ≠ s)
theorem NOk.step {fs : List Fn} {s : ByteArray} {i : Nat} {o : Bool} (h : NOk fs s i o) : NOk fs s (i + 1) (o && (fnF fs i).name.toList != s.toList) := by
  unfold NOk at h ⊢
  rw [Bool.and_eq_true, h, bne_iff_ne]
  constructor
  · rintro ⟨⟨h1, h2⟩, h3⟩
    refine ⟨h1, fun j hj => ?_⟩
    by_cases e : j = i
    · subst e; intro hh; rw [hh] at h3; exact h3 rfl
    · exact h2 j (by omega)
  · rintro ⟨h1, h2⟩
    refine ⟨⟨h1, fun j hj => h2 j (by omega)⟩, fun hh => h2 i (by omega) (name_eq.2 (by rwa [ByteArray.toList_eq, ByteArray.toList_eq] at hh))⟩
set_option maxRecDepth 100000 in
set_option maxHeartbeats 16000000 in
theorem namef_c (w : World) (H : Nat) (G : Nat → Prop) (A : Option Addr) (L c : Nat) (Bf : Nat → UInt8) (r : Nat) (p : Nat) (bad : Bool) (v : Int) (u : Nat) (fs : List Fn) (FA : Option Addr) (fcap : Nat) (hb : Blk w r 78 (lcells (.slice A L c) p bad)) (hB : BL w G A L Bf) (hGr : ¬ G r) (hp : p ≤ L) (hL : L ≤ 300000000) (hc : L ≤ c) (hc2 : c ≤ 9223372036854775807) (hF : FR w H (.slice FA fs.length fcap) fs) (hfs : fs.length ≤ 300000000) (hv0 : i64in v) (hv : bad = false → v = (u : Int) ∧ 1 ≤ u ∧ u ≤ 64) :
    Calls Try.prog 36 #[.pointer (some ⟨r, 0, none⟩), .int .i64 v, .slice FA fs.length fcap] w (NamePostD Bf L r (.slice A L c) p u bad fs w) := by
  have HB := Lib.hid hb
  have HR := Lib.hid hB
  have HF := Lib.hid hF
  obtain ⟨FA', fc', he, hfc, hfm, hfg⟩ := own_shape hF
  injection he with he1 _ he2
  subst he1 he2
  unfold maxLen at hfm
  have HFG := Lib.hid hfg
  have c0 : w.cell? ⟨r, 0, none⟩ = some (.slice A L c) := hb.cell 0
  have c1 : w.cell? ⟨r, 1, none⟩ = some (.int .i64 (p : Int)) := hb.cell 1
  have c2 : w.cell? ⟨r, 2, none⟩ = some (.bool bad) := hb.cell 2
  have z : ∀ j, w.frozen? ⟨r, j, none⟩ = false := hb.frozen
  have hlt := hb.lt
  have hv1 := hv0.1
  have hv2 := hv0.2
  have NB := own_blk_ne hF hb (by decide)
  have HNB := Lib.hid NB
  clear hb hB hGr hF hfg NB hv0
  cases bad with
  | true =>
    have E : Hid (NamePostD Bf L r (.slice A L c) p u true fs w (.returned (.string ⟨#[]⟩)) w) := ⟨⟨#[]⟩, p, true, rfl, by decide, HB.out, Only.refl _ _, hp, .inl ⟨rfl, rfl, rfl⟩⟩
    clear HB HR HF hv
    go_enter Try.func36, Try.ntmps36
    go_wp2_with fail
    go_ret
    exact E.out
  | false =>
    obtain ⟨rfl, hu1, hu2⟩ := hv rfl
    clear hv
    by_cases hfit : p + u ≤ L
    · obtain ⟨b, off, rfl, hGb, hbl, _⟩ := HR.out 0 (by omega)
      have DL : BL w G (some ⟨b, off + p, none⟩) u (fun i => Bf (p + i)) := fun i hi => by
        obtain ⟨b', off', e, h1, h2, h3⟩ := HR.out (p + i) (by omega)
        injection e with e
        injection e with e1 e2 _
        subst e1 e2
        exact ⟨b, off + p, rfl, h1, h2, by rw [Nat.add_assoc]; exact h3⟩
      have CV : ∀ k, (convert 28 9 (.slice (some ⟨b, off + p, none⟩) u (c - p))).run Try.prog (w.drewN k) = .ok (.string (nameOf (slc Bf p u))) (w.drewN k) := fun k => by
        have := bytes_string (w := w.drewN k) (c := c - p) (DL.only (F := fun _ => False) ((Only.refl _ w).drewN k) (fun _ _ _ h => h)) hu1
        rw [slc_zero_at (Bf := Bf) (p := p) (fun i _ => rfl)] at this
        exact this
      have hsz : (nameOf (slc Bf p u)).size = u := nameOf_size Bf p u
      have WRONG : Hid (¬ (NameOk (nameOf (slc Bf p u)) ∧ ∀ j, j < fs.length → (fnF fs j).name ≠ nameOf (slc Bf p u)) → ∀ w', Only (fun b => b = r) w w' → Blk w' r 78 (lcells (.slice (some ⟨b, off, none⟩) L c) p true) → NamePostD Bf L r (.slice (some ⟨b, off, none⟩) L c) p u false fs w (.returned (.string ⟨#[]⟩)) w') := fun hn w' ho hb => ⟨⟨#[]⟩, p, true, rfl, by decide, hb, ho, hp, .inr ⟨rfl, .inl ⟨rfl, fun k => run_wrong hfit fun hok => hn ⟨hok.1, fun j hj => hok.2 _ (fnF_mem hj)⟩⟩⟩⟩
      have RIGHT : Hid (NameOk (nameOf (slc Bf p u)) ∧ (∀ j, j < fs.length → (fnF fs j).name ≠ nameOf (slc Bf p u)) → ∀ w', Only (fun b => b = r) w w' → Blk w' r 78 (lcells (.slice (some ⟨b, off, none⟩) L c) (p + u) false) → NamePostD Bf L r (.slice (some ⟨b, off, none⟩) L c) p u false fs w (.returned (.string (nameOf (slc Bf p u)))) w') := fun hn w' ho hb => by
        have hd : ∀ f, f ∈ fs → f.name ≠ nameOf (slc Bf p u) := fun f hf => by
          obtain ⟨i, hi, rfl⟩ := mem_fnF hf
          exact hn.2 i hi
        exact ⟨_, p + u, false, rfl, by omega, hb, ho, hfit, .inr ⟨rfl, .inr ⟨rfl, rfl, hfit, rfl, hn.1, hd, fun k => run_step hfit ⟨hn.1, hd⟩⟩⟩⟩
      have NC := Lib.hid (fun w' => dname_c (nameOf (slc Bf p u)) (by omega) w')
      have hcp : ¬ c = p := by omega
      clear DL HR
      generalize nameOf (slc Bf p u) = s at *
      go_enter Try.func36, Try.ntmps36
      go_wp2_with fail
      go_quiet (fail)
      go_wp2_with fail
      go_quiet (fail)
      go_wp2_with (first | (go_at_call 42; refine (NC.out _).mono ?_; rintro e w2 ⟨o2, rfl, ho2, hb2⟩; have HO := Lib.hid ho2; have HB2 := Lib.hid hb2; clear ho2 hb2))
      have O2 := Lib.hid ((((Only.refl (fun b => b = r) w).drewN _).below HB2.out))
      have B2 := Lib.hid (HB.out.only (F := fun _ => False) (((Only.refl _ w).drewN _).below HB2.out) (fun h => h))
      have F2 := Lib.hid (own_only HF.out (F := fun _ => False) (((Only.refl _ w).drewN _).below HB2.out) (fun _ _ h => h))
      have N0 : Hid (NOk fs s 0 o2) := by show NOk fs s 0 o2; unfold NOk; rw [HO.out]; exact ⟨fun h => ⟨h, fun j hj => absurd hj (Nat.not_lt_zero _)⟩, fun h => h.1⟩
      clear HB HF HB2 HO NC CV c0 c1 c2 z
      go_loopw [8, 9] (fun ov iv wx => wx = w2 ∧ ∃ (i : Nat) (o : Bool), i ≤ fs.length ∧ iv = .int .i64 (i : Int) ∧ ov = .bool o ∧ Hid (NOk fs s i o)) (fun _ iv _ => fs.length - (intOf iv).toNat)
      case atStart => exact ⟨rfl, 0, o2, by omega, rfl, rfl, N0⟩
      case round =>
        clear N0
        obtain ⟨hw, i, o, hi, rfl, rfl, N⟩ := hrel
        subst hw
        by_cases hlt : i < fs.length
        · obtain ⟨g, rfl, hg, hgl, _⟩ := HFG.out (by omega)
          obtain ⟨k0, _, _, _, _⟩ := FR.cells F2.out i hlt
          have N1 := Lib.hid N.out.step
          clear N WRONG RIGHT
          cases o with
          | false =>
            go_wp2_with fail
            go_roundw
            case rel => exact ⟨by first | trivial | rfl, i + 1, false, by omega, by go_num, by first | trivial | rfl, N1⟩
            case measure => first | (simp [intOf]; done) | (simp [intOf]; omega)
          | true =>
            cases hq : ((fnF fs i).name.toList == s.toList) with
            | false =>
              have N2 : Hid (NOk fs s (i + 1) true) := by have := N1.out; rw [show ((fnF fs i).name.toList != s.toList) = true from by unfold bne; rw [hq]; rfl] at this; exact this
              clear N1
              go_wp2_with fail
              go_roundw
              case rel => exact ⟨by first | trivial | rfl, i + 1, true, by omega, by go_num, by first | trivial | rfl | simp [hq], N2⟩
              case measure => first | (simp [intOf]; done) | (simp [intOf]; omega)
            | true =>
              have N2 : Hid (NOk fs s (i + 1) false) := by have := N1.out; rw [show ((fnF fs i).name.toList != s.toList) = false from by unfold bne; rw [hq]; rfl] at this; exact this
              clear N1
              go_wp2_with fail
              go_roundw
              case rel => exact ⟨by first | trivial | rfl, i + 1, false, by omega, by go_num, by first | trivial | rfl | simp [hq], N2⟩
              case measure => first | (simp [intOf]; done) | (simp [intOf]; omega)
        · have hi' : i = fs.length := by omega
          subst hi'
          have c1 : wr.cell? ⟨r, 1, none⟩ = some (.int .i64 (p : Int)) := B2.out.cell 1
          have c2 : wr.cell? ⟨r, 2, none⟩ = some (.bool false) := B2.out.cell 2
          have z : ∀ j, wr.frozen? ⟨r, j, none⟩ = false := B2.out.frozen
          cases o with
          | false =>
            have E := Lib.hid (WRONG.out (fun h => by have := N.out.2 h; cases this) _ (O2.out.setCell (.inl rfl) _) (B2.out.set_ 2 (.bool true)))
            clear WRONG RIGHT N F2 B2 O2
            go_wp2_with fail
            go_ret
            exact E.out
          | true =>
            have E := Lib.hid (RIGHT.out (N.out.1 rfl) _ (O2.out.setCell (p := ⟨r, 1, none⟩) (.inl rfl) (.int .i64 ((p + u : Nat) : Int))) (B2.out.set_ 1 (.int .i64 ((p + u : Nat) : Int))))
            rw [Int.natCast_add] at E
            clear WRONG RIGHT N F2 B2 O2
            go_wp2_with fail
            go_ret
            exact E.out
    · have E : Hid (∀ q, NamePostD Bf L r (.slice A L c) p u false fs w (.returned (.string ⟨#[]⟩)) (((w.drewN q).setCell ⟨r, 1, none⟩ (.int .i64 (L : Int))).setCell ⟨r, 2, none⟩ (.bool true))) := fun q => ⟨⟨#[]⟩, L, true, rfl, by decide, ((HB.out.drewN q).set_ 1 _).set_ 2 _, (((Only.refl (fun b => b = r) w).drewN q).setCell (.inl rfl) _).setCell (.inl rfl) _, Nat.le_refl _, .inr ⟨rfl, .inl ⟨rfl, fun k => run_lack (by omega)⟩⟩⟩
      clear HB HR HF
      go_enter Try.func36, Try.ntmps36
      go_wp2_with fail
      go_quiet (fail)
      go_wp2_with fail
      go_ret
      exact E.out _
set_option maxRecDepth 100000 in
set_option maxHeartbeats 16000000 in
theorem dbounds_c (w : World) (IA : Option Addr) (ni icap : Nat) (FA : Option Addr) (nf cf : Nat) (m : Int) (op : Nat) (f : Fn) (hf : FnB f) (hnf : 1 ≤ nf) (hnf2 : nf ≤ 300000000) (hop : op ≤ 38) (hw : wideOf (op : Int) = true) (hop1 : op ≠ 1) :
    Calls Try.prog 44 #[codeV IA ni icap FA nf cf m, fnV f, .int .i64 (op : Int)] w fun e w' => e = .returned (.tuple #[.int .i64 ((bnd nf f op).1 : Nat), .int .i64 ((bnd nf f op).2 : Nat)]) ∧ Below w.heap.size w w' := by
  have B0 : Hid (Below w.heap.size w ((w.alloc (.cells #[.slice IA ni icap, .slice FA nf cf, .int .i64 m] 25)).alloc (.cells #[.string f.name, .int .i64 f.frame, .int .i64 f.first, .int .i64 f.count, .int .i64 f.params] 53))) := ba (ba (Below.refl w.heap.size w) _) _
  have BW : Hid (∀ k, Below w.heap.size w (((w.alloc (.cells #[.slice IA ni icap, .slice FA nf cf, .int .i64 m] 25)).alloc (.cells #[.string f.name, .int .i64 f.frame, .int .i64 f.first, .int .i64 f.count, .int .i64 f.params] 53)).drewN k)) := fun k => ⟨rfl, rfl, rfl, B0.out.size, B0.out.block⟩
  obtain ⟨a1, a2, a3, a4, a5, a6, a7, a8⟩ := hf
  have hop2 := wide_ops hop hw
  clear hw hop
  unfold fnV codeV
  obtain ⟨name, frame, first, count, params⟩ := f
  simp only at *
  obtain ⟨fi, rfl⟩ := Int.eq_ofNat_of_zero_le a3
  obtain ⟨fr, rfl⟩ := Int.eq_ofNat_of_zero_le (show 0 ≤ frame by omega)
  obtain ⟨cn, rfl⟩ := Int.eq_ofNat_of_zero_le (show 0 ≤ count by omega)
  rcases hop2 with rfl | rfl | rfl | rfl | rfl | rfl | rfl | rfl | rfl | rfl | rfl
  · exact absurd rfl hop1
  all_goals go_enter Try.func44, Try.ntmps44
  all_goals go_wp2_with fail
  all_goals try (go_quiet (fail); go_wp2_with fail)
  all_goals go_ret2
  all_goals first | (refine ⟨?_, B0.out⟩; rfl) | (refine ⟨?_, BW.out _⟩; simp [bnd]; done) | (refine ⟨?_, BW.out _⟩; simp [bnd]; omega)
end Go.Proofs.Ytafhjpehkfcmjaa
