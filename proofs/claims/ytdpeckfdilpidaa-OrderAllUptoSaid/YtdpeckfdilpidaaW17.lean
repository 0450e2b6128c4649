/- The document's own Line: what it tells. -/
import Derived.Test.YtdpeckfdilpidaaW15
import Derived.Test.YtdpeckfdilpidaaPlain7
set_option linter.unusedVariables false
set_option linter.unusedSimpArgs false
namespace Go.Proofs.Ytdpeckfdilpidaa
open Go.RowKit
attribute [local go_sem ↓] Go.wp_at_zero Go.wp_at_succ
/-- What stands from round to round. -/
structure FI (w wr : World) (A : Option Addr) (len : Nat) (X : Nat → List Int) (ov : Value) (s : DS) (st nx fm : Nat → Int) : Prop where
  rl : RLL wr (fun b => b < w.heap.size) A len X
  b1 : Blk wr w.heap.size 3 (ints len st)
  b2 : Blk wr (w.heap.size + 1) 3 (ints len nx)
  b3 : Blk wr (w.heap.size + 2) 3 (ints len fm)
  out : Row wr (fun k => w.heap.size + 3 ≤ k) 3 1 ov s.done.length (nums (ofNats s.done.reverse))
  rf : RF len X s st nx fm
  reach : Reach X s
  below : Below w.heap.size w wr
theorem FI.only {w wr w2 : World} {A : Option Addr} {len : Nat} {X : Nat → List Int} {ov : Value} {s : DS} {st nx fm : Nat → Int} (h : FI w wr A len X ov s st nx fm) (o : Only (fun _ => False) wr w2) : FI w w2 A len X ov s st nx fm :=
  ⟨h.rl.only o (fun _ _ _ h => h), h.b1.only o (fun h => h), h.b2.only o (fun h => h), h.b3.only o (fun h => h), h.out.only o (fun _ _ h => h), h.rf, h.reach, h.below.trans (o.toBelow h.below.size fun _ _ h => h)⟩
def FrefAt (w wr : World) (A : Option Addr) (len : Nat) (X : Nat → List Int) (ov bv : Value) (gk : Nat) : Prop := ∃ s st nx fm, FI w wr A len X ov s st nx fm ∧ bv = .int .i64 (topOf s.op) ∧ s.left X len ≤ gk
theorem three (w : World) (a b c : Array Value) : Blk (((w.alloc (.cells a 3)).alloc (.cells b 3)).alloc (.cells c 3)) w.heap.size 3 a ∧ Blk (((w.alloc (.cells a 3)).alloc (.cells b 3)).alloc (.cells c 3)) (w.heap.size + 1) 3 b ∧ Blk (((w.alloc (.cells a 3)).alloc (.cells b 3)).alloc (.cells c 3)) (w.heap.size + 1 + 1) 3 c := by
  have z1 : (w.alloc (.cells a 3)).heap.size = w.heap.size + 1 := by simp
  have z2 : ((w.alloc (.cells a 3)).alloc (.cells b 3)).heap.size = w.heap.size + 1 + 1 := by simp
  have b1 := Blk.new w 3 a
  have b2 := Blk.new (w.alloc (.cells a 3)) 3 b
  have b3 := Blk.new ((w.alloc (.cells a 3)).alloc (.cells b 3)) 3 c
  rw [z1] at b2
  rw [z2] at b3
  exact ⟨(b1.alloc _).alloc _, b2.alloc _, b3⟩
theorem FI.start (w : World) (A : Option Addr) (len : Nat) (X : Nat → List Int) (h : RLL w (fun b => b < w.heap.size) A len X) (hp : 0 < len) :
    FI w (((w.alloc (.cells ((ints len fun _ => 0).setIfInBounds 0 (.int .i64 1)) 3)).alloc (.cells (ints len fun _ => 0) 3)).alloc (.cells ((ints len fun _ => 0).setIfInBounds 0 (.int .i64 (-1))) 3)) A len X (.slice none 0 0) (DS.start X) (upi (fun _ => 0) 0 1) (fun _ => 0) (upi (fun _ => 0) 0 (-1)) := by
  rw [ints_put len _ hp, ints_put len _ hp]
  obtain ⟨b1, b2, b3⟩ := three w (ints len fun j => if j = 0 then 1 else 0) (ints len fun _ => 0) (ints len fun j => if j = 0 then -1 else 0)
  have e : (DS.start X).done = [] := by rw [DS.start, DS.visit_yes rfl]
  exact ⟨h.only ((((Only.refl (fun _ => False) w).alloc _).alloc _).alloc _) (fun _ _ _ h => h), b1, b2, b3, by rw [e]; exact Row.nil_ _ _ _ _, RF.start, .start,
    (((Below.refl _ w).alloc (Nat.le_refl _) _).alloc (by simp) _).alloc (by simp <;> omega) _⟩
section
variable {w wr w4 : World} {A : Option Addr} {len : Nat} {X : Nat → List Int} {ov v1 : Value} {seen : Nat → Bool} {op : List (Nat × Nat)} {done : List Nat} {b l c : Nat} {st nx fm : Nat → Int} {obj : Obj}
theorem FI.popped (h : FI w wr A len X ov ⟨seen, op ++ [(b, 0)], done⟩ st nx fm) (hi : Inv len X ⟨seen, op ++ [(b, 0)], done⟩) (hb : b < len)
    (hown : w4.ownsRow 0 3 1 v1 (done.length + 1) (nums (ofNats (done ++ [b]).reverse))) (hg : ((wr.setCell ⟨w.heap.size, b, none⟩ (.int .i64 2)).alloc obj).grownBy w4 (some wr.heap.size)) (hat : v1.ownBlock = some wr.heap.size ∨ v1.ownBlock = some (wr.heap.size + 1)) :
    FI w w4 A len X v1 ⟨seen, op, done ++ [b]⟩ (upi st b 2) nx fm ∧ fm b = topOf op := by
  obtain ⟨hrf, htop⟩ := h.rf.pop hi
  have o1 : Only (fun k => k = w.heap.size) wr ((wr.setCell ⟨w.heap.size, b, none⟩ (.int .i64 2)).alloc obj) := ((Only.refl (fun k => k = w.heap.size) wr).setCell (p := ⟨w.heap.size, b, none⟩) (.inl rfl) _).alloc obj
  have o2 : Only (fun k => k = wr.heap.size) ((wr.setCell ⟨w.heap.size, b, none⟩ (.int .i64 2)).alloc obj) w4 := (Only.refl _ _).grown hg fun k hk => .inl (by injection hk with hk; exact hk.symm)
  have o : Only (fun k => k = w.heap.size ∨ k = wr.heap.size) wr w4 := (o1.mono fun k _ e => .inl e).trans o2 fun k _ e => .inr e
  have l3 := h.b3.lt
  have hB := h.below.size
  have k1 : Blk (wr.setCell ⟨w.heap.size, b, none⟩ (.int .i64 2)) w.heap.size 3 _ := h.b1.set_ b (.int .i64 2)
  rw [ints_put len st hb] at k1
  refine ⟨⟨h.rl.only o (fun k _ hk hf => ?_), (k1.alloc obj).only o2 (by omega), h.b2.only o (by omega), h.b3.only o (by omega), ⟨?_, fun k hk => ?_⟩, hrf, .step h.reach (.pop seen op b done), h.below.trans (o.toBelow hB fun k hk hf => by omega)⟩, htop⟩
  · omega
  · rw [List.length_append]; exact hown
  · rcases hat with e | e <;> (rw [e] at hk; injection hk with hk; omega)
theorem visit_done' (X : Nat → List Int) (s : DS) (b : Nat) : (s.visit X b).done = s.done := visit_done X s b
theorem FI.way_seen (h : FI w wr A len X ov ⟨seen, op ++ [(b, l + 1)], done⟩ st nx fm) (hi : Inv len X ⟨seen, op ++ [(b, l + 1)], done⟩) (hb : b < len) (hc : c = way X b l) (hs : seen c = true) {z : Int} (hz : nx b + 1 = z) :
    FI w (wr.setCell ⟨w.heap.size + 1, b, none⟩ (.int .i64 z)) A len X ov (DS.visit X ⟨seen, op ++ [(b, l)], done⟩ c) st (upi nx b (nx b + 1)) fm := by
  subst hz
  have o : Only (fun k => k = w.heap.size + 1) wr (wr.setCell ⟨w.heap.size + 1, b, none⟩ (.int .i64 (nx b + 1))) := (Only.refl (fun k => k = w.heap.size + 1) wr).setCell (p := ⟨w.heap.size + 1, b, none⟩) (.inl rfl) _
  have hrf := h.rf.gone hi
  have k1 : Blk (wr.setCell ⟨w.heap.size + 1, b, none⟩ (.int .i64 (nx b + 1))) (w.heap.size + 1) 3 _ := h.b2.set_ b (.int .i64 (nx b + 1))
  rw [ints_put len nx hb] at k1
  have hst : Reach X (DS.visit X ⟨seen, op ++ [(b, l)], done⟩ c) := by rw [hc]; exact .step h.reach (.way seen op b l done)
  refine ⟨h.rl.only o (fun k _ hk hf => by omega), h.b1.only o (by omega), k1, h.b3.only o (by omega), ?_, ?_, hst, h.below.trans (o.toBelow h.below.size fun k hk hf => by omega)⟩
  · rw [visit_done]; exact h.out.only o (fun k hk hf => by have := h.out.2 k hk; omega)
  · rw [DS.visit_no hs]; exact hrf
theorem FI.way_new (h : FI w wr A len X ov ⟨seen, op ++ [(b, l + 1)], done⟩ st nx fm) (hX : Right len X) (hi : Inv len X ⟨seen, op ++ [(b, l + 1)], done⟩) (hb : b < len) (hcl : c < len) (hc : c = way X b l) (hs : seen c = false) {z : Int} (hz : nx b + 1 = z) :
    FI w (((wr.setCell ⟨w.heap.size + 1, b, none⟩ (.int .i64 z)).setCell ⟨w.heap.size, c, none⟩ (.int .i64 1)).setCell ⟨w.heap.size + 2, c, none⟩ (.int .i64 (b : Int))) A len X ov (DS.visit X ⟨seen, op ++ [(b, l)], done⟩ c) (upi st c 1) (upi nx b (nx b + 1)) (upi fm c (b : Int)) := by
  subst hz
  have o : Only (fun k => k = w.heap.size ∨ k = w.heap.size + 1 ∨ k = w.heap.size + 2) wr (((wr.setCell ⟨w.heap.size + 1, b, none⟩ (.int .i64 (nx b + 1))).setCell ⟨w.heap.size, c, none⟩ (.int .i64 1)).setCell ⟨w.heap.size + 2, c, none⟩ (.int .i64 (b : Int))) :=
    (((Only.refl (fun k => k = w.heap.size ∨ k = w.heap.size + 1 ∨ k = w.heap.size + 2) wr).setCell (p := ⟨w.heap.size + 1, b, none⟩) (.inl (.inr (.inl rfl))) _).setCell (p := ⟨w.heap.size, c, none⟩) (.inl (.inl rfl)) _).setCell (p := ⟨w.heap.size + 2, c, none⟩) (.inl (.inr (.inr rfl))) _
  have hrf := h.rf.gone hi
  have hi2 : Inv len X ⟨seen, op ++ [(b, l)], done⟩ := by
    refine ⟨fun p hp => ?_, hi.done, fun k => ?_, ?_⟩
    · rcases List.mem_append.1 hp with hp | hp
      · exact hi.op p (by simp [hp])
      · rw [List.mem_singleton] at hp; subst hp
        have := hi.op (b, l + 1) (by simp)
        exact ⟨this.1, by have := this.2; simp only at this ⊢; omega⟩
    · have := hi.seen k; simpa using this
    · have := hi.nd; simpa using this
  have k2 : Blk (wr.setCell ⟨w.heap.size + 1, b, none⟩ (.int .i64 (nx b + 1))) (w.heap.size + 1) 3 _ := h.b2.set_ b (.int .i64 (nx b + 1))
  rw [ints_put len nx hb] at k2
  have k1 : Blk ((wr.setCell ⟨w.heap.size + 1, b, none⟩ (.int .i64 (nx b + 1))).setCell ⟨w.heap.size, c, none⟩ (.int .i64 1)) w.heap.size 3 _ := (h.b1.far (p := ⟨w.heap.size + 1, b, none⟩) (by show w.heap.size ≠ w.heap.size + 1; omega) _).set_ c (.int .i64 1)
  rw [ints_put len st hcl] at k1
  have k3 : Blk (((wr.setCell ⟨w.heap.size + 1, b, none⟩ (.int .i64 (nx b + 1))).setCell ⟨w.heap.size, c, none⟩ (.int .i64 1)).setCell ⟨w.heap.size + 2, c, none⟩ (.int .i64 (b : Int))) (w.heap.size + 2) 3 _ := ((h.b3.far (p := ⟨w.heap.size + 1, b, none⟩) (by show w.heap.size + 2 ≠ w.heap.size + 1; omega) _).far (p := ⟨w.heap.size, c, none⟩) (by show w.heap.size + 2 ≠ w.heap.size; omega) _).set_ c (.int .i64 (b : Int))
  rw [ints_put len fm hcl] at k3
  have hst : Reach X (DS.visit X ⟨seen, op ++ [(b, l)], done⟩ c) := by rw [hc]; exact .step h.reach (.way seen op b l done)
  refine ⟨h.rl.only o (fun k _ hk hf => by omega), k1.far (p := ⟨w.heap.size + 2, c, none⟩) (by show w.heap.size ≠ w.heap.size + 2; omega) _, (k2.far (p := ⟨w.heap.size, c, none⟩) (by show w.heap.size + 1 ≠ w.heap.size; omega) _).far (p := ⟨w.heap.size + 2, c, none⟩) (by show w.heap.size + 1 ≠ w.heap.size + 2; omega) _, k3, ?_, ?_, hst, h.below.trans (o.toBelow h.below.size fun k hk hf => by omega)⟩
  · rw [visit_done]; exact h.out.only o (fun k hk hf => by have := h.out.2 k hk; omega)
  · exact hrf.visited hi2 hs
end
set_option maxRecDepth 100000 in
set_option maxHeartbeats 16000000 in
theorem ref_c (w : World) (A : Option Addr) (len cap : Nat) (X : Nat → List Int) (h : RLL w (fun b => b < w.heap.size) A len X) (hl : len ≤ 250000) : Calls Try.prog 15 #[.slice A len cap] w (LinePost w len X) := by
  have C := Lib.hid h.at_
  have H := Lib.hid h
  clear h
  have hmk := made_ints len (by omega)
  have BAD := Lib.hid (fun (hb : ¬ (Right len X ∧ 0 < len)) => show LinePost w len X (.returned (.slice none 0 0)) w from ⟨_, rfl, Below.refl _ _, .inl ⟨hb, rfl⟩⟩)
  go_enter Try.func15, Try.ntmps15
  go_wp2_with fail
  go_loop [3] (fun i => ∃ k : Nat, k ≤ len ∧ i = .int .i64 (k : Int) ∧ Hid (∀ k', k' < k → ∀ i, i < (X k').length → 0 ≤ (X k').getD i 0 ∧ (X k').getD i 0 < len)) (fun i => len - (intOf i).toNat)
  case atStart => exact ⟨0, by omega, rfl, fun k' hk => absurd hk (Nat.not_lt_zero _)⟩
  case round =>
    obtain ⟨k, hk, rfl, HK⟩ := hrel
    by_cases hlt : k < len
    · obtain ⟨b, off, Ak, ck, rfl, hGb, hbl, ck0, hRL⟩ := C.out k hlt
      have RR := Lib.hid hRL.2
      have hxl := hRL.1
      obtain ⟨L, hL⟩ : ∃ L, L = (X k).length := ⟨_, rfl⟩
      rw [← hL] at ck0 RR hxl
      have HL := Lib.hid hL
      clear hRL C hL hmk
      go_wp2_with fail
      go_loop [4] (fun i => ∃ t : Nat, t ≤ L ∧ i = .int .i64 (t : Int) ∧ Hid (∀ i, i < t → 0 ≤ (X k).getD i 0 ∧ (X k).getD i 0 < len)) (fun i => L - (intOf i).toNat)
      case atStart => exact ⟨0, by omega, rfl, fun i hi => absurd hi (Nat.not_lt_zero _)⟩
      case round =>
        obtain ⟨t, ht, rfl, HT⟩ := hrel
        by_cases htl : t < L
        · obtain ⟨hin, b', off', rfl, hGb', hbl', ct0⟩ := RR.out t htl
          by_cases hr : 0 ≤ (X k).getD t 0 ∧ (X k).getD t 0 < len
          · have HN : Hid (∀ i, i < t + 1 → 0 ≤ (X k).getD i 0 ∧ (X k).getD i 0 < len) := fun i hi => by
              by_cases he : i = t
              · rw [he]; exact hr
              · exact HT.out i (by omega)
            clear RR HT HK BAD HL
            generalize (X k).getD t 0 = y at *
            obtain ⟨hr1, hr2⟩ := hr
            go_wp2_with fail
            go_round
            case rel => exact ⟨t + 1, by omega, by go_num, HN⟩
            case measure => first | (simp [intOf]; done) | (simp [intOf]; omega)
          · have E := Lib.hid (BAD.out (fun hh => hr (hh.1 k hlt t (by rw [← HL.out]; exact htl))))
            clear RR HT HK BAD HL
            generalize (X k).getD t 0 = y at *
            rcases (show y < 0 ∨ (0 ≤ y ∧ (len : Int) ≤ y) by omega) with hc | ⟨hc1, hc2⟩
            · go_wp2_with fail
              go_ret
              exact E.out
            · go_wp2_with fail
              go_ret
              exact E.out
        · have HN : Hid (∀ k', k' < k + 1 → ∀ i, i < (X k').length → 0 ≤ (X k').getD i 0 ∧ (X k').getD i 0 < len) := fun k' hk' i hi => by
            by_cases he : k' = k
            · subst he; exact HT.out i (by have := HL.out; omega)
            · exact HK.out k' (by omega) i hi
          clear RR HT HK BAD HL
          go_wp2_with fail
          go_round
          case rel => exact ⟨k + 1, by omega, by go_num, HN⟩
          case measure => first | (simp [intOf]; done) | (simp [intOf]; omega)
    · have HX : Hid (Right len X) := fun k' hk' i hi => HK.out k' (by omega) i hi
      by_cases h0 : len = 0
      · subst h0
        have E := Lib.hid (BAD.out (fun hh => by omega))
        clear HK C BAD hmk
        go_wp2_with fail
        go_ret
        exact E.out
      · have h0' : ((len : Int) == 0) = false := beq_eq_false_iff_ne.2 (by omega)
        have hp : 0 < len := by omega
        clear HK C BAD
        have c1 : (((w.alloc (.cells (ints len fun _ => 0) 3)).alloc (.cells (ints len fun _ => 0) 3)).alloc (.cells (ints len fun _ => 0) 3)).cell? ⟨w.heap.size, 0, none⟩ = some (.int .i64 0) := ((three w _ _ _).1.cell 0).trans (ints_get len _ hp)
        have f1 : (((w.alloc (.cells (ints len fun _ => 0) 3)).alloc (.cells (ints len fun _ => 0) 3)).alloc (.cells (ints len fun _ => 0) 3)).frozen? ⟨w.heap.size, 0, none⟩ = false := (three w _ _ _).1.frozen 0
        have c3 : (((w.alloc (.cells ((ints len fun _ => 0).setIfInBounds 0 (.int .i64 1)) 3)).alloc (.cells (ints len fun _ => 0) 3)).alloc (.cells (ints len fun _ => 0) 3)).cell? ⟨w.heap.size + 1 + 1, 0, none⟩ = some (.int .i64 0) := ((three w _ _ _).2.2.cell 0).trans (ints_get len _ hp)
        have f3 : (((w.alloc (.cells ((ints len fun _ => 0).setIfInBounds 0 (.int .i64 1)) 3)).alloc (.cells (ints len fun _ => 0) 3)).alloc (.cells (ints len fun _ => 0) 3)).frozen? ⟨w.heap.size + 1 + 1, 0, none⟩ = false := (three w _ _ _).2.2.frozen 0
        have S0 := Lib.hid (FI.start w A len X H.out hp)
        have E0 : Hid (FrefAt w (((w.alloc (.cells ((ints len fun _ => 0).setIfInBounds 0 (.int .i64 1)) 3)).alloc (.cells (ints len fun _ => 0) 3)).alloc (.cells ((ints len fun _ => 0).setIfInBounds 0 (.int .i64 (-1))) 3)) A len X (.slice none 0 0) (.int .i64 0) ((DS.start X).left X len)) := by
          refine ⟨_, _, _, _, S0.out, ?_, Nat.le_refl _⟩
          rw [DS.start, DS.visit_yes rfl]; rfl
        go_wp2_with fail
        clear S0 c1 f1 c3 f3
        generalize (DS.start X).left X len = n0 at *
        go_loopg [8, 9] n0 (fun gk ov bv wr => Hid (FrefAt w wr A len X ov bv gk))
        case atStart => exact E0
        case round =>
          clear E0
          obtain ⟨s, st, nx, fm, HI, rfl, hgk⟩ := hrel.out
          have I := Lib.hid HI
          have HGK := Lib.hid hgk
          have SZ := (HI.reach.inv hp HX.out).size
          clear HI hgk hrel
          obtain ⟨seen, op, done⟩ := s
          obtain ⟨Ao, co, rfl, hoc⟩ := I.out.out.shape
          rcases snoc op with rfl | ⟨op, ⟨b, l⟩, rfl⟩
          · rw [show topOf (DS.mk seen [] done).op = -1 from rfl]
            have E := Lib.hid (show LinePost w len X (.returned (.slice Ao done.length co)) wr from ⟨_, rfl, I.out.below, .inr ⟨HX.out, hp, _, I.out.reach, rfl, I.out.out.mono fun k _ hk => by omega⟩⟩)
            clear I HGK
            simp only at *
            go_wp2_with fail
            go_ret
            exact E.out
          · rw [show topOf (DS.mk seen (op ++ [(b, l)]) done).op = (b : Int) from topOf_snoc _ _]
            have INV := Lib.hid (I.out.reach.inv hp HX.out)
            obtain ⟨hbn, hbl⟩ := INV.out.op (b, l) (by simp)
            have hnx := I.out.rf.hnx (b, l) (by simp)
            simp only at hbn hbl hnx
            obtain ⟨nn, hnn⟩ : ∃ nn : Nat, nx b = (nn : Int) := ⟨(X b).length - l, by omega⟩
            obtain ⟨bb, off, Ak, ck, rfl, hGb, hbbl, ck0, hRL⟩ := I.out.rl.at_ b hbn
            have cn : wr.cell? ⟨w.heap.size + 1, b, none⟩ = some (.int .i64 (nn : Int)) := by rw [I.out.b2.cell, ints_get len nx hbn, hnn]
            have cs : wr.cell? ⟨w.heap.size, b, none⟩ = some (.int .i64 (st b)) := by rw [I.out.b1.cell, ints_get len st hbn]
            have fs : wr.frozen? ⟨w.heap.size, b, none⟩ = false := I.out.b1.frozen b
            have HNN := Lib.hid hnn
            have HLE := Lib.hid (fun (t : DS) (ht : Step X ⟨seen, op ++ [(b, l)], done⟩ t) => Nat.lt_of_lt_of_le (ht.less HX.out INV.out) HGK.out)
            have hlX := hRL.1
            have RR := Lib.hid hRL.2
            obtain ⟨Lb, hLb⟩ : ∃ Lb, Lb = (X b).length := ⟨_, rfl⟩
            have HLB := Lib.hid hLb
            rw [← hLb] at ck0 hlX hbl hnx RR
            rw [hnn] at hnx
            clear hRL HGK hnn hLb
            cases l with
            | zero =>
              obtain rfl : Lb = nn := by omega
              have hee : ((Lb : Int) == (Lb : Int)) = true := beq_self_eq_true _
              go_wp2_with fail
              have hdl : ∀ x, x ∈ done.reverse → x < len := fun x hx => INV.out.done x (List.mem_reverse.1 hx)
              have ho : Row wr (fun k => w.heap.size + 3 ≤ k) 3 1 (.slice Ao done.length co) done.reverse.length (nums (ofNats done.reverse)) := by rw [List.length_reverse]; exact I.out.out
              have hdn : done.length ≤ len := by simp at SZ; omega
              obtain ⟨A2, c2, e2, hRLo⟩ := row_reads ho hdl (by omega) (by rw [List.length_reverse]; omega)
              injection e2 with e2a _ _
              subst e2a
              have HLo : Hid ((nums (ofNats done.reverse)).length = done.length * 1) := by show (nums (ofNats done.reverse)).length = done.length * 1; rw [nums_length, ofNats_length, List.length_reverse]; omega
              have NWo := Lib.hid (fun (nq : Nat) => (hRLo.only ((((Only.refl (fun k => k = w.heap.size) wr).drewN nq).setCell (p := ⟨w.heap.size, b, none⟩) (.inl rfl) (.int .i64 2)).alloc (.cells #[.int .i64 (b : Int)] 3)) (fun k _ hk hf => by omega)).news)
              have NW1 : Hid (Ao = none → done.length = 0) := fun e => by have := (NWo.out 0).1 e; rw [ofNats_length, List.length_reverse] at this; exact this
              obtain ⟨i0, hI, hz0, hz1, hz2⟩ := info_parts info3
              have HI := Lib.hid hI
              have HZ0 := Lib.hid hz0
              have HZ1 := Lib.hid hz1
              have HZ2 := Lib.hid hz2
              have HYS : Hid ([Value.int .i64 (b : Int)] ++ nums (ofNats done.reverse) = nums (ofNats (done ++ [b]).reverse)) := by show _ = _; simp [nums, ofNats]
              have l3 := I.out.b3.lt
              clear hI hz0 hz1 hz2 ho hdl hRLo RR H
              go_quiet (fail)
              have I2 := Lib.hid (I.out.only ((Only.refl (fun _ => False) wr).drewN nq))
              go_wp2_with (at_builtin; go_must (refine wpList_append_any rfl (.tmp 78) (.tmp 79) 27 rfl 3 i0 _ 1 8 Try.underlying27 HI.out HZ0.out HZ1.out HZ2.out rfl (by omega) (.slice (some ⟨wr.heap.size, 0, none⟩) 1 1) 1 [.int .i64 (b : Int)] rfl (Row.fresh (l := [(b : Int)]) (alloc_at_set _ _ _ _) rfl (by simp [maxLen])).1 Ao done.length co (nums (ofNats done.reverse)) rfl HLo.out NW1.out (NWo.out nq).2 (nums_one _) (by unfold maxLen; omega) (by omega) (done.length + 1) (by omega) _ HYS.out (wr.heap.size + 1) (by simp [World.setCell]) ?_); go_must (intro A4 c4 w4 hown hgrow hat; obtain ⟨hFI, htop⟩ := I2.out.popped INV.out hbn hown hgrow hat; have c3 : w4.cell? ⟨w.heap.size + 1 + 1, b, none⟩ = some (.int .i64 (fm b)) := (hFI.b3.cell b).trans (ints_get len fm hbn); rw [htop] at c3; have F := Lib.hid hFI; clear hown hgrow hat hFI htop; simp (config := { maxSteps := 3000000 }) only [Act.put, List.setIfInBounds_toArray, List.set_cons_succ, List.set_cons_zero]))
              have HL := Lib.hid (HLE.out _ (.pop seen op b done))
              go_roundg (gk - 1)
              case rel => exact ⟨_, _, _, _, F.out, rfl, by have := HL.out; omega⟩
              case measure => have := HL.out; omega
            | succ l =>
              have hj2 : l < (X b).length := by rw [← HLB.out]; omega
              obtain ⟨_, b2, off2, rfl, hG2, hb2l, cx⟩ := RR.out l (by omega)
              have hyl := way_lt HX.out hbn hj2
              have hyw : (X b).getD l 0 = ((way X b l : Nat) : Int) := by
                have := HX.out b hbn l hj2
                unfold way; omega
              rw [hyw] at cx
              obtain ⟨c, hc⟩ : ∃ c, c = way X b l := ⟨_, rfl⟩
              rw [← hc] at hyl cx
              have HC := Lib.hid hc
              have hee : ((nn : Int) == (Lb : Int)) = false := beq_eq_false_iff_ne.2 (by omega)
              have fn : wr.frozen? ⟨w.heap.size + 1, b, none⟩ = false := I.out.b2.frozen b
              have hix : ((Lb : Int) - 1 - (nn : Int)).toNat = l := by omega
              clear hyw hc hj2 RR H
              go_wp2_with fail
              go_quiet (fail)
              go_wp2_with fail
              have cs' : wr.cell? ⟨w.heap.size, c, none⟩ = some (.int .i64 (st c)) := by rw [I.out.b1.cell, ints_get len st hyl]
              have c3 : wr.cell? ⟨w.heap.size + 1 + 1, c, none⟩ = some (.int .i64 (fm c)) := by
                have := I.out.b3.cell c
                rw [ints_get len fm hyl] at this
                exact this
              have f3 : wr.frozen? ⟨w.heap.size + 1 + 1, c, none⟩ = false := I.out.b3.frozen c
              have f1' : wr.frozen? ⟨w.heap.size, c, none⟩ = false := I.out.b1.frozen c
              have ST : Hid (Step X ⟨seen, op ++ [(b, l + 1)], done⟩ (DS.visit X ⟨seen, op ++ [(b, l)], done⟩ c)) := by
                have := Step.way (X := X) seen op b l done
                rw [HC.out]
                exact this
              have HL := Lib.hid (HLE.out _ ST.out)
              have hz : nx b + 1 = (nn : Int) + 1 := by rw [HNN.out]
              have hgk0 : 0 < gk := by have := HL.out; omega
              cases hsc : seen c with
              | true =>
                have hst0 : (st c == 0) = false := beq_eq_false_iff_ne.2 (fun e => by rw [show seen c = false from (I.out.rf.hst c).1 e] at hsc; cases hsc)
                have HTOP : Hid (topOf (DS.visit X ⟨seen, op ++ [(b, l)], done⟩ c).op = (b : Int)) := by
                  show _ = _
                  rw [DS.visit_no hsc]
                  exact topOf_snoc _ _
                have N := Lib.hid (fun (n : Nat) => (I.out.only ((Only.refl (fun _ => False) wr).drewN n)).way_seen INV.out hbn HC.out hsc hz)
                clear I HLE INV hsc hz
                generalize st c = sc at *
                go_quiet (fail)
                go_wp2_with fail
                go_roundg (gk - 1)
                case rel => exact ⟨_, _, _, _, N.out _, by rw [HTOP.out], by have := HL.out; omega⟩
                case measure => omega
              | false =>
                have hst0 : st c = 0 := (I.out.rf.hst c).2 hsc
                rw [hst0] at cs'
                have HTOP : Hid (topOf (DS.visit X ⟨seen, op ++ [(b, l)], done⟩ c).op = (c : Int)) := by
                  show _ = _
                  rw [DS.visit_yes hsc]
                  exact topOf_snoc _ _
                have N := Lib.hid (fun (n : Nat) => (I.out.only ((Only.refl (fun _ => False) wr).drewN n)).way_new HX.out INV.out hbn hyl HC.out hsc hz)
                clear I HLE INV hsc hz hst0
                go_quiet (fail)
                go_wp2_with fail
                go_roundg (gk - 1)
                case rel => exact ⟨_, _, _, _, N.out _, by rw [HTOP.out], by have := HL.out; omega⟩
                case measure => omega
end Go.Proofs.Ytdpeckfdilpidaa
