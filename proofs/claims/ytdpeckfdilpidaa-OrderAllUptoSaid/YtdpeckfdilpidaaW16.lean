/- stays: what it tells. -/
import Derived.Test.YtdpeckfdilpidaaW14
set_option linter.unusedVariables false
set_option linter.unusedSimpArgs false
namespace Go.Proofs.Ytdpeckfdilpidaa
open Go.RowKit
attribute [local go_sem ↓] Go.wp_at_zero Go.wp_at_succ
theorem one_rl {w : World} {b : Nat} {x : Int} (h : Blk w b 3 #[.int .i64 x]) (hx : i64in x) : RL w (fun _ => True) (some ⟨b, 0, none⟩) [x] :=
  ⟨by simp, fun i hi => by
    obtain rfl : i = 0 := by simp at hi; omega
    exact ⟨hx, b, 0, rfl, trivial, h.lt, h.cell 0⟩⟩
/-- Two lists that are the same, asked anywhere behind a draw. -/
theorem same_true (w : World) {G G' : Nat → Prop} {A B : Option Addr} {l : List Int} {L ca cb : Nat} (hL : l.length = L) (h : RL w G A l) (h' : RL w G' B l) (n : Nat) : Calls Try.prog 14 #[.slice A L ca, .slice B L cb] (w.drewN n) (fun e w'' => e = .returned (.bool true) ∧ ∃ m, w'' = w.drewN m) := by
  subst hL
  refine (same_c (w.drewN n) G G' A B l l ca cb (h.only ((Only.refl (fun _ => False) w).drewN n) (fun _ _ _ h => h)) (h'.only ((Only.refl (fun _ => False) w).drewN n) (fun _ _ _ h => h))).mono ?_
  rintro e w' ⟨he, k, hk⟩
  rw [decide_eq_true rfl] at he
  exact ⟨he, n + k, by rw [hk, World.drewN_drewN]⟩
/-- i of the lists looked at and written over. -/
structure ST (w wr : World) (X : Nat → List Int) (n lb lc : Nat) (fv : Value) (F FL : Nat → Prop) (V : Nat → Value) (b4 b5 : Nat) (i : Nat) (Y : Nat → List Int) (U : Nat → Value) : Prop where
  full : LL wr F 27 fv n V Y
  l : Row wr FL 27 1 (.slice (some ⟨lb, 0, none⟩) (n + 2) lc) (n + 2) (heads n U ++ [.slice (some ⟨b4, 0, none⟩) 1 1, .slice (some ⟨b5, 0, none⟩) 1 1])
  y : ∀ j, i ≤ j → j < n → Y j = X j ++ marks
  len : ∀ j, j < n → (Y j).length = (X j).length + 3
  u : ∀ j, i ≤ j → j < n → U j = shorten (V j) (X j).length
  dj : ∀ b, F b → ¬ FL b
  only : Only (fun b => F b ∨ FL b) w wr
  ft : ∀ b, F b ∨ FL b → b < w.heap.size
section
variable {w wr w2 : World} {X Y : Nat → List Int} {n lb lc b4 b5 i : Nat} {fv : Value} {F FL : Nat → Prop} {V U : Nat → Value}
theorem ST.later (h : ST w wr X n lb lc fv F FL V b4 b5 i Y U) (hb : Below wr.heap.size wr w2) : ST w w2 X n lb lc fv F FL V b4 b5 i Y U :=
  ⟨h.full.only (Only.ofBelow (F := fun _ => False) hb) (fun _ _ _ h => h), h.l.only (Only.ofBelow (F := fun _ => False) hb) (fun _ _ h => h), h.y, h.len, h.u, h.dj, h.only.trans (Only.ofBelow (F := fun b => F b ∨ FL b) hb) (fun _ _ h => h), h.ft⟩
theorem ST.drew (h : ST w wr X n lb lc fv F FL V b4 b5 i Y U) (k : Nat) : ST w (wr.drewN k) X n lb lc fv F FL V b4 b5 i Y U :=
  ⟨h.full.only ((Only.refl (fun _ => False) wr).drewN k) (fun _ _ _ h => h), h.l.drewN k, h.y, h.len, h.u, h.dj, h.only.drewN k, h.ft⟩
theorem ST.wrote {nb c j : Nat} (h : ST w wr X n lb lc fv F FL V b4 b5 (i + 1) Y U) (hi : i < n) (hV : V i = .slice (some ⟨nb, 0, none⟩) (Y i).length c) (x : Int) :
    ST w (wr.setCell ⟨nb, j, none⟩ (.int .i64 x)) X n lb lc fv F FL V b4 b5 (i + 1) (updf Y i ((Y i).set j x)) U := by
  obtain ⟨h1, h2⟩ := h.full.stored (by decide) hi hV j x
  refine ⟨h1, ?_, fun k hk hkn => ?_, fun k hk => ?_, h.u, h.dj, h.only.setCell (p := ⟨nb, j, none⟩) (.inl (.inl h2)) _, h.ft⟩
  · refine h.l.far (p := ⟨nb, j, none⟩) (fun e => ?_) _
    exact h.dj nb h2 (h.l.2 nb e)
  · rw [updf_other _ _ _ (by omega)]; exact h.y k hk hkn
  · by_cases he : k = i
    · subst he; rw [updf_same, List.length_set]; exact h.len k hk
    · rw [updf_other _ _ _ he]; exact h.len k hk
theorem ST.nilled (h : ST w wr X n lb lc fv F FL V b4 b5 (i + 1) Y U) (hi : i < n) : ST w (wr.setCell ⟨lb, i, none⟩ (.slice none 0 0)) X n lb lc fv F FL V b4 b5 (i + 1) Y (updf U i (.slice none 0 0)) := by
  have hlb : FL lb := h.l.2 lb rfl
  have hr := h.l.stored i (.slice none 0 0)
  rw [List.set_append_left _ _ (by simpa [heads] using hi), heads_set] at hr
  refine ⟨h.full.only ((Only.refl (fun b => b = lb) wr).setCell (p := ⟨lb, i, none⟩) (.inl rfl) _) (fun b _ hF e => by subst e; exact h.dj b hF hlb), hr, h.y, h.len, fun k hk hkn => ?_, h.dj, h.only.setCell (p := ⟨lb, i, none⟩) (.inl (.inr hlb)) _, h.ft⟩
  rw [updf_other _ _ _ (by omega)]; exact h.u k hk hkn
theorem ST.next (h : ST w wr X n lb lc fv F FL V b4 b5 i Y U) : ST w wr X n lb lc fv F FL V b4 b5 (i + 1) Y U :=
  ⟨h.full, h.l, fun j hj => h.y j (by omega), h.len, fun j hj => h.u j (by omega), h.dj, h.only, h.ft⟩
end
theorem Lent.st {w : World} {B : Nat} {X : Nat → List Int} {n lb lc : Nat} {fv : Value} {F FL : Nat → Prop} {V : Nat → Value} {b4 b5 : Nat} (h : Lent w B X n lb lc fv F FL V b4 b5) : ST w w X n lb lc fv F FL V b4 b5 0 (fun j => X j ++ marks) (fun j => shorten (V j) (X j).length) :=
  ⟨h.full, h.l, fun _ _ _ => rfl, fun j _ => by rw [List.length_append]; rfl, fun _ _ _ => rfl, h.dj, Only.refl _ _, fun b hf => (h.ft b (hf.imp (fun e => e) (fun e => .inl e))).2⟩
theorem RL.prefix_ {w : World} {G : Nat → Prop} {A : Option Addr} {l m : List Int} (h : RL w G A (l ++ m)) : RL w G A l := by
  refine ⟨by have := h.1; rw [List.length_append] at this; omega, fun i hi => ?_⟩
  have := h.2 i (by rw [List.length_append]; omega)
  rwa [List.getD_eq_getElem?_getD, List.getElem?_append_left hi, ← List.getD_eq_getElem?_getD] at this
theorem marked_in {l : List Int} (h : ∀ i, i < l.length → i64in (l.getD i 0)) : ∀ i, i < (l ++ marks).length → i64in ((l ++ marks).getD i 0) := by
  intro i hi
  by_cases hl : i < l.length
  · rw [List.getD_eq_getElem?_getD, List.getElem?_append_left hl, ← List.getD_eq_getElem?_getD]; exact h i hl
  · rw [List.length_append] at hi
    rw [List.getD_eq_getElem?_getD, List.getElem?_append_right (by omega)]
    have : i - l.length < 3 := by have : marks.length = 3 := rfl; omega
    rcases (show i - l.length = 0 ∨ i - l.length = 1 ∨ i - l.length = 2 by omega) with e | e | e <;> rw [e] <;> exact ⟨by decide, by decide⟩
def StaysPost (w : World) (F FL : Nat → Prop) (e : Ending) (w' : World) : Prop := e = .returned (.bool true) ∧ Only (fun b => F b ∨ FL b) w w'
set_option maxRecDepth 100000 in
set_option maxHeartbeats 16000000 in
theorem stays_c (w : World) (A : Option Addr) (len cap : Nat) (X : Nat → List Int) (G : Nat → Prop) (r : RLL w G A len X) (B : Nat) (hG : ∀ b, G b → b < B) (hl : len ≤ 250000) (hx : ∀ k, k < len → (X k).length ≤ 250000)
    (lb lc : Nat) (fv : Value) (F FL : Nat → Prop) (V : Nat → Value) (b4 b5 : Nat) (h : Lent w B X len lb lc fv F FL V b4 b5) (hlc : len + 2 ≤ lc) :
    Calls Try.prog 13 #[.slice A len cap, .slice (some ⟨lb, 0, none⟩) len lc, fv] w (StaysPost w F FL) := by
  have R := Lib.hid r
  have HX := Lib.hid hx
  have HGB := Lib.hid hG
  have HF := Lib.hid h.ft
  have c4 : w.cell? ⟨lb, len, none⟩ = some (.slice (some ⟨b4, 0, none⟩) 1 1) := h.l.cell (by rw [List.getElem?_append_right (by simp [heads])]; simp [heads])
  have c5 : w.cell? ⟨lb, len + 1, none⟩ = some (.slice (some ⟨b5, 0, none⟩) 1 1) := h.l.cell (by rw [List.getElem?_append_right (by simp [heads])]; simp [heads])
  have hlbl : lb < w.heap.size := h.l.lt rfl
  have M4 := Lib.hid h.m4
  have M5 := Lib.hid h.m5
  have S0 := Lib.hid h.st
  obtain ⟨Af, cf, hfv, hcf⟩ := h.full.row.shape
  subst hfv
  clear r hx hG h
  have K4 := Lib.hid (fun (n : Nat) => same_true (ca := 1) (cb := 1) (L := 1) (w.alloc (.cells #[.int .i64 (-74)] 3)) rfl (one_rl (M4.out.alloc _) ⟨by decide, by decide⟩) (one_rl (Blk.new w 3 #[.int .i64 (-74)]) ⟨by decide, by decide⟩) n)
  go_enter Try.func13, Try.ntmps13
  go_wp2_with fail
  refine (K4.out 0).mono ?_
  rintro e w3 ⟨rfl, n3, rfl⟩
  have c5' : ((w.alloc (.cells #[.int .i64 (-74)] 3)).drewN n3).cell? ⟨lb, len + 1, none⟩ = some (.slice (some ⟨b5, 0, none⟩) 1 1) := (Only.cell (((Only.refl (fun _ => False) w).alloc _).drewN n3) hlbl (fun h => h)).trans c5
  have z1 : ((w.alloc (.cells #[.int .i64 (-74)] 3)).drewN n3).heap.size = w.heap.size + 1 := by show (w.alloc _).heap.size = _; simp
  have bn := Blk.new ((w.alloc (.cells #[.int .i64 (-74)] 3)).drewN n3) 3 #[.int .i64 (-75)]
  rw [z1] at bn
  have K5 := Lib.hid (fun n => same_true (ca := 1) (cb := 1) (L := 1) (((w.alloc (.cells #[.int .i64 (-74)] 3)).drewN n3).alloc (.cells #[.int .i64 (-75)] 3)) rfl (one_rl (((M5.out.alloc _).drewN _).alloc _) ⟨by decide, by decide⟩) (one_rl bn ⟨by decide, by decide⟩) n)
  go_wp2_with fail
  refine (K5.out 0).mono ?_
  rintro e w3 ⟨rfl, n4, rfl⟩
  have ST0 := Lib.hid ((((S0.out.later ((Below.refl _ w).alloc (Nat.le_refl _) (.cells #[.int .i64 (-74)] 3))).drew n3).later ((Below.refl _ _).alloc (Nat.le_refl _) (.cells #[.int .i64 (-75)] 3))).drew n4)
  have S1 : Hid (∃ Y U, ST w ((((w.alloc (.cells #[.int .i64 (-74)] 3)).drewN n3).alloc (.cells #[.int .i64 (-75)] 3)).drewN n4) X len lb lc (.slice Af len cf) F FL V b4 b5 0 Y U) := ⟨_, _, ST0.out⟩
  clear S0 K4 K5 M4 M5 c4 c5 c5' bn z1 ST0
  generalize hw3 : ((((w.alloc (.cells #[.int .i64 (-74)] 3)).drewN n3).alloc (.cells #[.int .i64 (-75)] 3)).drewN n4) = w3 at *
  clear hw3
  have RW := Lib.hid (fun (wr : World) (ho : Only (fun b => F b ∨ FL b) w wr) => R.out.only ho (fun b _ hg hf => by have h1 := HGB.out b hg; have h2 := HF.out b (hf.imp (fun e => e) (fun e => .inl e)); omega))
  have INT := Lib.hid (fun k (hk : k < len) => R.out.ints hk)
  clear R
  obtain ⟨i0, hI, hz0, hz1, hz2⟩ := info_parts info3
  have HI := Lib.hid hI
  have HZ0 := Lib.hid hz0
  have HZ1 := Lib.hid hz1
  have HZ2 := Lib.hid hz2
  clear hI hz0 hz1 hz2
  go_wp2_with fail
  go_loopw [8, 9] (fun okv iv wr => ∃ i : Nat, i ≤ len ∧ okv = .bool true ∧ iv = .int .i64 (i : Int) ∧ Hid (∃ Y U, ST w wr X len lb lc (.slice Af len cf) F FL V b4 b5 i Y U)) (fun _ iv _ => len - (intOf iv).toNat)
  case atStart => exact ⟨0, by omega, rfl, rfl, S1⟩
  case round =>
    clear S1
    obtain ⟨i, hi, rfl, rfl, HR⟩ := hrel
    obtain ⟨Y, U, hS⟩ := HR.out
    have S := Lib.hid hS
    clear hS HR
    by_cases hlt : i < len
    · obtain ⟨fb, cf', hv, hFf, _, _⟩ := S.out.full.row.form (by omega)
      injection hv with hv1 _ hv2
      subst hv1 hv2
      obtain ⟨gi, ci, hVi, hFg, hgl, hci⟩ := (S.out.full.rows i hlt).form (by have := S.out.len i hlt; omega)
      obtain ⟨L, hL⟩ : ∃ L, L = (X i).length := ⟨_, rfl⟩
      have HL := Lib.hid hL
      have hYL : (Y i).length = L + 3 := by rw [hL]; exact S.out.len i hlt
      rw [hYL] at hVi hci
      have HVI := Lib.hid hVi
      have HUI : Hid (U i = .slice (some ⟨gi, 0, none⟩) L ci) := by
        show U i = _
        rw [S.out.u i (Nat.le_refl _) hlt, hVi, hL]; rfl
      obtain ⟨b, off, Ak, ck, rfl, hGb, hbl, ck0, hRL⟩ := (RW.out wr S.out.only).at_ i hlt
      have hxl := HX.out i hlt
      have NW := Lib.hid hRL.news
      have RLx := Lib.hid hRL
      have HNL : Hid ((nums (X i)).length = L * 1) := by have := nums_length (X i); show (nums (X i)).length = L * 1; omega
      rw [← hL] at ck0 hxl
      have NW1 : Hid (Ak = none → L = 0) := by have := NW.out.1; rw [← hL] at this; exact this
      clear hL hRL hYL hVi hFf hFg
      go_wp2_with (first
        | (have H2 := P2; at_builtin; go_must (refine wpList_append_any rfl (.tmp 44) (.tmp 45) 27 rfl 3 i0 _ 1 8 Try.underlying27 HI.out HZ0.out HZ1.out HZ2.out rfl (by omega) (.slice A1 L c1) L (nums (X i)) rfl (P2.out.alloc _) (some ⟨w1.heap.size, 0, none⟩) 3 3 (nums marks) rfl rfl (fun h => by cases h) (fun a ha => by injection ha with ha; subst ha; exact World.news_of_block (cs := #[.int .i64 (-71), .int .i64 (-72), .int .i64 (-73)]) (t := 3) (fr := (0, 0)) (heap_alloc_new _ _)) (nums_one _) (by unfold maxLen; omega) (by omega) (L + 3) rfl _ rfl (w1.heap.size + 1) (by simp) ?_); go_must (intro A2 c2 w2 hown hgrow hat; have P3 := Lib.hid (LNI.twice (LNI.start wr X V) G1.out T1.out Q1.out hgrow hat hown).2; clear hown hgrow hat))
        | (at_builtin; go_must (refine wpList_append_any rfl (.const (.slice none 0 0)) (.tmp 43) 27 rfl 3 i0 _ 1 8 Try.underlying27 HI.out HZ0.out HZ1.out HZ2.out rfl (by omega) (.slice none 0 0) 0 [] rfl (World.ownsRow_nil _ 0 3 1) Ak L ck (nums (X i)) rfl HNL.out NW1.out NW.out.2 (nums_one _) (by unfold maxLen; omega) (by omega) L (by omega) (nums (X i)) rfl wr.heap.size rfl ?_); go_must (intro A1 c1 w1 hown hgrow hat; have Q1 := Lib.hid hown; have G1 := Lib.hid hgrow; have T1 := Lib.hid hat; clear hown hgrow hat; have P2 := Q1)))
      have S2 := Lib.hid (S.out.later P3.out.1)
      have RL2 := Lib.hid (RLx.out.only (Only.ofBelow (F := fun _ => False) P3.out.1) (fun _ _ _ h => h))
      have e1 : (X i ++ marks).length = L + 3 := by rw [List.length_append, ← HL.out]; rfl
      have QW := (P3.out.2.reads (marked_in (INT.out i hlt)) (by rw [e1]; omega))
      have QF0 := S2.out.full.rows i hlt
      rw [S2.out.y i (Nat.le_refl _) hlt] at QF0
      have QF := QF0.reads (marked_in (INT.out i hlt)) (by rw [e1]; omega)
      rw [e1] at QW QF
      obtain ⟨A3, c3, e3, QW⟩ := QW
      injection e3 with e3a _ e3c
      subst e3a e3c
      obtain ⟨A4, c4, e4, QF⟩ := QF
      rw [HVI.out] at e4
      injection e4 with e4a _ e4c
      subst e4a e4c
      have C1 := Lib.hid (fun n => same_true (ca := ci) (cb := c2) w2 e1 QF QW n)
      have C2 := Lib.hid (fun n => same_true (ca := ci) (cb := ck) w2 HL.out.symm QF.prefix_ RL2.out n)
      have cF := S2.out.full.head_cell hlt
      rw [HVI.out] at cF
      have cL := S2.out.l.cell (i := i) (u := U i) (by rw [List.getElem?_append_left (by simpa [heads] using hlt), heads_get len _ hlt])
      rw [HUI.out] at cL
      have cT := (Only.cell (Only.ofBelow (F := fun _ => False) P3.out.1) (World.block_lt_of_cell? wr _ ck0) (fun h => h)).trans ck0
      clear S QW QF QF0 RL2 RLx NW NW1 P2 P3 Q1 G1 T1
      go_quiet (first | with_reducible exact C1.out _ | with_reducible exact C2.out _)
      have S3 : Hid (∃ Y, ST w (w2.drewN nq) X len lb lc (.slice (some ⟨fb, 0, none⟩) len cf) F FL V b4 b5 (i + 1) Y U) := ⟨_, (S2.out.drew nq).next⟩
      clear C1 C2 cF cL cT S2
      go_wp2_with fail
      go_loopw [11] (fun jv wr => ∃ j : Nat, j ≤ L + 3 ∧ jv = .int .i64 (j : Int) ∧ Hid (∃ Y, ST w wr X len lb lc (.slice (some ⟨fb, 0, none⟩) len cf) F FL V b4 b5 (i + 1) Y U)) (fun jv _ => L + 3 - (intOf jv).toNat)
      case atStart => exact ⟨0, by omega, rfl, S3⟩
      case round =>
        clear S3
        obtain ⟨j, hj, rfl, HR⟩ := hrel
        obtain ⟨Y, hS⟩ := HR.out
        have S := Lib.hid hS
        have hYL : (Y i).length = L + 3 := by rw [HL.out]; exact hS.len i hlt
        have cF := hS.full.head_cell hlt
        rw [HVI.out] at cF
        clear hS HR
        by_cases hjl : j < L + 3
        · have hV' : V i = .slice (some ⟨gi, 0, none⟩) (Y i).length ci := by rw [hYL]; exact HVI.out
          have cx := S.out.full.num_cell hlt hV' (i := j) (by omega)
          have hfr := S.out.full.rows i hlt
          rw [hV'] at hfr
          have fx := hfr.frozen j
          have N := Lib.hid (S.out.wrote (j := j) hlt hV' (-76))
          clear S hfr hV' hYL
          generalize (Y i).getD j 0 = y at *
          go_wp2_with fail
          go_roundw
          case rel => exact ⟨j + 1, by omega, by go_num, _, N.out⟩
          case measure => first | (simp [intOf]; done) | (simp [intOf]; omega)
        · have cL := S.out.l.cell (i := i) (u := U i) (by rw [List.getElem?_append_left (by simpa [heads] using hlt), heads_get len _ hlt])
          rw [HUI.out] at cL
          have fL := S.out.l.frozen i
          have N := Lib.hid (S.out.nilled hlt)
          clear S hYL
          go_wp2_with fail
          go_roundw
          case rel => exact ⟨i + 1, by omega, rfl, by go_num, _, _, N.out⟩
          case measure => first | (simp [intOf]; done) | (simp [intOf]; omega)
    · go_wp2_with fail
      go_ret
      exact ⟨rfl, S.out.only⟩
end Go.Proofs.Ytdpeckfdilpidaa
