/- the document's instruction: the walk. -/
import Derived.Test.YtkjfbojmkkdgoaaA11
set_option linter.unusedVariables false
set_option linter.unusedSimpArgs false
namespace Go.Proofs.Ytkjfbojmkkdgoaa
open Go.RowKit
attribute [local go_sem ↓] Go.wp_at_zero Go.wp_at_succ
def uV (u : Nat → Bool) : Array Value := #[.bool (u 0), .bool (u 1), .bool (u 2), .bool (u 3)]
def lV (l : Nat → Int) : Array Value := #[.int .i64 (l 0), .int .i64 (l 1), .int .i64 (l 2)]
theorem uV_at (u : Nat → Bool) : ∀ i, i < 4 → (uV u)[i]? = some (.bool (u i))
  | 0, _ => rfl
  | 1, _ => rfl
  | 2, _ => rfl
  | 3, _ => rfl
  | n + 4, h => by omega
theorem lV_at (l : Nat → Int) : ∀ i, i < 3 → (lV l)[i]? = some (.int .i64 (l i))
  | 0, _ => rfl
  | 1, _ => rfl
  | 2, _ => rfl
  | n + 3, h => by omega
def dinsL (i : Ins) : Nat → Int
  | 0 => i.a
  | 1 => i.b
  | _ => i.c
def insU (op : Int) : Nat → Bool
  | 0 => useBit op 1
  | 1 => useBit op 2
  | 2 => useBit op 4
  | _ => useBit op 8
theorem insOk_iff (nf : Nat) (f : Fn) (i : Ins) (h : (usesOf i.op).2 = true) : insOk nf f i = true ↔ (∀ j, j < 3 → fieldOk (dinsL i j) (insU i.op j) = true) ∧ numberOk nf f i = true := by
  unfold insOk
  rw [h]
  simp only [Bool.true_and, Bool.and_eq_true]
  constructor
  · rintro ⟨⟨⟨h1, h2⟩, h3⟩, h4⟩
    refine ⟨fun j hj => ?_, h4⟩
    match j, hj with
    | 0, _ => exact h1
    | 1, _ => exact h2
    | 2, _ => exact h3
    | n + 3, hj => omega
  · rintro ⟨h1, h2⟩
    exact ⟨⟨⟨h1 0 (by omega), h1 1 (by omega)⟩, h1 2 (by omega)⟩, h2⟩
theorem codeV_def (A : Option Addr) (ni ci : Nat) (B : Option Addr) (nf cf : Nat) (m : Int) : codeV A ni ci B nf cf m = .agg #[.slice A ni ci, .slice B nf cf, .int .i64 m] := rfl
/-- What stands through instruction. -/
structure IS (w wr : World) (cc ff ii : Array Value) (g : Nat) (u : Nat → Bool) (l : Nat → Int) : Prop where
  b1 : Blk wr w.heap.size 25 cc
  b2 : Blk wr (w.heap.size + 1) 61 ff
  b3 : Blk wr (w.heap.size + 2) 54 ii
  b4 : Blk wr g 99 (uV u)
  b5 : Blk wr (g + 1) 102 (lV l)
  below : Below w.heap.size w wr
theorem IS.start {w w1 : World} (cc ff ii : Array Value) (u : Nat → Bool) (l : Nat → Int) (hb : Below (((w.alloc (.cells cc 25)).alloc (.cells ff 61)).alloc (.cells ii 54)).heap.size (((w.alloc (.cells cc 25)).alloc (.cells ff 61)).alloc (.cells ii 54)) w1) :
    IS w ((w1.alloc (.cells (uV u) 99)).alloc (.cells (lV l) 102)) cc ff ii w1.heap.size u l := by
  have z : (w.alloc (.cells cc 25)).heap.size = w.heap.size + 1 := by simp
  have z2 : ((w.alloc (.cells cc 25)).alloc (.cells ff 61)).heap.size = w.heap.size + 2 := by simp
  have b1 := ((Blk.new w 25 cc).alloc (.cells ff 61)).alloc (.cells ii 54)
  have b2 := (Blk.new (w.alloc (.cells cc 25)) 61 ff).alloc (.cells ii 54)
  have b3 := Blk.new ((w.alloc (.cells cc 25)).alloc (.cells ff 61)) 54 ii
  rw [z] at b2
  rw [z2] at b3
  have z3 : (w1.alloc (.cells (uV u) 99)).heap.size = w1.heap.size + 1 := by simp
  have b5 := Blk.new (w1.alloc (.cells (uV u) 99)) 102 (lV l)
  rw [z3] at b5
  have B := (ba (ba (ba (Below.refl w.heap.size w) (.cells cc 25)) (.cells ff 61)) (.cells ii 54))
  exact ⟨((b1.below hb b1.lt).alloc _).alloc _, ((b2.below hb b2.lt).alloc _).alloc _, ((b3.below hb b3.lt).alloc _).alloc _, (Blk.new w1 99 _).alloc _, b5, ba (ba (B.trans (hb.mono B.size)) _) _⟩
theorem IS.pre {w w1 : World} (cc ff ii : Array Value) (hb : Below (((w.alloc (.cells cc 25)).alloc (.cells ff 61)).alloc (.cells ii 54)).heap.size (((w.alloc (.cells cc 25)).alloc (.cells ff 61)).alloc (.cells ii 54)) w1) :
    Blk w1 w.heap.size 25 cc ∧ Blk w1 (w.heap.size + 1) 61 ff ∧ Blk w1 (w.heap.size + 1 + 1) 54 ii ∧ Below w.heap.size w w1 := by
  have h := IS.start cc ff ii (fun _ => false) (fun _ => 0) hb
  have z : (w.alloc (.cells cc 25)).heap.size = w.heap.size + 1 := by simp
  have z2 : ((w.alloc (.cells cc 25)).alloc (.cells ff 61)).heap.size = w.heap.size + 2 := by simp
  have b1 := ((Blk.new w 25 cc).alloc (.cells ff 61)).alloc (.cells ii 54)
  have b2 := (Blk.new (w.alloc (.cells cc 25)) 61 ff).alloc (.cells ii 54)
  have b3 := Blk.new ((w.alloc (.cells cc 25)).alloc (.cells ff 61)) 54 ii
  rw [z] at b2
  rw [z2] at b3
  have B := (ba (ba (ba (Below.refl w.heap.size w) (.cells cc 25)) (.cells ff 61)) (.cells ii 54))
  exact ⟨b1.below hb b1.lt, b2.below hb b2.lt, b3.below hb b3.lt, B.trans (hb.mono B.size)⟩
set_option maxRecDepth 100000 in
set_option maxHeartbeats 16000000 in
theorem dinstr_c (A : Option Addr) (ni ci : Nat) (B : Option Addr) (nf cf : Nat) (m : Int) (f : Fn) (hf : FnIn f) (hf0 : 0 ≤ f.first) (hf2 : 2 ≤ f.frame) (hfc : f.first + f.count ≤ 9223372036854775807) (hfc0 : 0 ≤ f.count) (i : Ins) (hi : InsIn i) (hnf : nf ≤ 9223372036854775807) (w : World) :
    Calls Try.prog 29 #[codeV A ni ci B nf cf m, fnV f, insV i] w fun e w' => e = .returned (.bool (insOk nf f i)) ∧ Below w.heap.size w w' := by
  have FC := Lib.hid (fun w' => fields_c i.op hi.op w')
  have NC := Lib.hid (fun hN hU w' => dnumber_c A ni ci B nf cf m f hf hf0 hf2 hfc hfc0 i hi hN hU hnf w')
  have HIFF := Lib.hid (insOk_iff nf f i)
  have HNN := Lib.hid (noN_number nf f i)
  have ST := Lib.hid (fun (w1 : World) (u : Nat → Bool) (l : Nat → Int) hb => IS.start (w := w) (w1 := w1) #[.slice A ni ci, .slice B nf cf, .int .i64 m] #[.string f.name, .int .i64 f.frame, .int .i64 f.first, .int .i64 f.count, .int .i64 f.params] #[.int .i64 i.op, .int .i64 i.a, .int .i64 i.b, .int .i64 i.c, .int .i64 i.n] u l hb)
  have PRE := Lib.hid (fun (w1 : World) hb => IS.pre (w := w) (w1 := w1) #[.slice A ni ci, .slice B nf cf, .int .i64 m] #[.string f.name, .int .i64 f.frame, .int .i64 f.first, .int .i64 f.count, .int .i64 f.params] #[.int .i64 i.op, .int .i64 i.a, .int .i64 i.b, .int .i64 i.c, .int .i64 i.n] hb)
  have hd := dflags_uses i.op
  have ho := opIn_uses i.op
  have hLa : dinsL i 0 = i.a := rfl
  have hLb : dinsL i 1 = i.b := rfl
  have hLc : dinsL i 2 = i.c := rfl
  have hU3 : insU i.op 3 = useBit i.op 8 := rfl
  have HLI : Hid (∀ j, j < 3 → i64in (dinsL i j)) := fun j hj => by
    match j, hj with
    | 0, _ => exact hi.a
    | 1, _ => exact hi.b
    | 2, _ => exact hi.c
    | n + 3, hj => omega
  unfold codeV fnV insV at *
  cases hok : (usesOf i.op).2 with
  | false =>
    have e0 : insOk nf f i = false := by unfold insOk; rw [hok]; rfl
    rw [hok] at ho
    have hdf : dflags i.op = #[.bool false, .bool false, .bool false, .bool false] := by
      unfold opIn at ho
      unfold dflags
      rw [if_pos (by simp at ho; omega)]
    rw [ho, hdf] at FC
    rw [e0]
    clear hd ho NC HIFF HNN hdf e0
    go_enter Try.func29, Try.ntmps29
    go_wp2_with (first | (go_at_call 45; refine (FC.out _).mono ?_; rintro e w1 ⟨rfl, hb⟩; have HB := Lib.hid hb; clear hb))
    go_ret
    exact ⟨rfl, ba (PRE.out _ HB.out).2.2.2 _⟩
  | true =>
    rw [hok] at ho
    rw [ho, hd hok] at FC
    have HIFF2 := Lib.hid (HIFF.out hok)
    have HNN2 := Lib.hid (fun h => HNN.out h hok)
    have NC2 := Lib.hid (fun hN w' => NC.out hN hok w')
    clear HIFF HNN NC hd ho hok
    have hu0 : useBit i.op 1 = insU i.op 0 := rfl
    have hu1 : useBit i.op 2 = insU i.op 1 := rfl
    have hu2 : useBit i.op 4 = insU i.op 2 := rfl
    have hu3 : useBit i.op 8 = insU i.op 3 := rfl
    rw [hu0, hu1, hu2, hu3] at FC
    rw [hu3] at HNN2 NC2
    clear hu0 hu1 hu2 hu3 hU3
    obtain ⟨op, a, b, c, n⟩ := i
    simp only at *
    generalize insU op = u at *
    go_enter Try.func29, Try.ntmps29
    go_wp2_with (first | (go_at_call 45; refine (FC.out _).mono ?_; rintro e w1 ⟨rfl, hb⟩; have HB := Lib.hid hb; clear hb; have PR := Lib.hid (PRE.out _ HB.out); have d1 := PR.out.2.2.1.cell 1; have d2 := PR.out.2.2.1.cell 2; have d3 := PR.out.2.2.1.cell 3; have g3 := PR.out.2.2.1.lt))
    have S0 : Hid (IS w ((w1.alloc (.cells #[.bool (u 0), .bool (u 1), .bool (u 2), .bool (u 3)] 99)).alloc (.cells #[.int .i64 a, .int .i64 b, .int .i64 c] 102)) #[.slice A ni ci, .slice B nf cf, .int .i64 m] #[.string f.name, .int .i64 f.frame, .int .i64 f.first, .int .i64 f.count, .int .i64 f.params] #[.int .i64 op, .int .i64 a, .int .i64 b, .int .i64 c, .int .i64 n] w1.heap.size u (dinsL ⟨op, a, b, c, n⟩)) := ST.out w1 u (dinsL ⟨op, a, b, c, n⟩) HB.out
    clear ST PR PRE d1 d2 d3 g3 hLa hLb hLc FC HB
    generalize dinsL ⟨op, a, b, c, n⟩ = l at *
    go_loopw [10] (fun iv wx => ∃ i : Nat, i ≤ 3 ∧ iv = .int .i64 (i : Int) ∧ Hid (IS w wx #[.slice A ni ci, .slice B nf cf, .int .i64 m] #[.string f.name, .int .i64 f.frame, .int .i64 f.first, .int .i64 f.count, .int .i64 f.params] #[.int .i64 op, .int .i64 a, .int .i64 b, .int .i64 c, .int .i64 n] w1.heap.size u l) ∧ Hid (∀ j, j < i → fieldOk (l j) (u j) = true)) (fun iv _ => 3 - (intOf iv).toNat)
    case atStart => exact ⟨0, by omega, rfl, S0, fun j hj => absurd hj (Nat.not_lt_zero _)⟩
    case round =>
      clear S0
      obtain ⟨i, hi3, rfl, S, HK⟩ := hrel
      have l4 := S.out.b4.lt
      have l5 := S.out.b5.lt
      by_cases hlt : i < 3
      · have cl : wr.cell? ⟨w1.heap.size + 1, i, none⟩ = some (.int .i64 (l i)) := (S.out.b5.cell i).trans (lV_at l i hlt)
        have cu : wr.cell? ⟨w1.heap.size, i, none⟩ = some (.bool (u i)) := (S.out.b4.cell i).trans (uV_at u i (by omega))
        have BADI : Hid (fieldOk (l i) (u i) = false → insOk nf f ⟨op, a, b, c, n⟩ = false) := fun h => by
          cases hh : insOk nf f ⟨op, a, b, c, n⟩ with
          | false => rfl
          | true => have := (HIFF2.out.1 hh).1 i hlt; rw [h] at this; cases this
        have HKI : Hid (fieldOk (l i) (u i) = true → ∀ j, j < i + 1 → fieldOk (l j) (u j) = true) := fun h j hj => by
          by_cases he : j = i
          · rw [he]; exact h
          · exact HK.out j (by omega)
        obtain ⟨li1, li2⟩ := HLI.out i hlt
        clear HK HLI HIFF2 HNN2 NC2
        generalize l i = x at *
        generalize u i = y at *
        rcases (show x < 0 ∨ (0 ≤ x ∧ 15 < x) ∨ x = 0 ∨ (1 ≤ x ∧ x ≤ 15) by omega) with g | ⟨g1, g2⟩ | rfl | ⟨g1, g2⟩
        · have E := Lib.hid (BADI.out (by unfold fieldOk; rw [show (x == 0) = false from beq_eq_false_iff_ne.2 (by omega), show decide (0 < x) = false from decide_eq_false (by omega)]; simp))
          go_wp2_with fail
          go_ret
          exact ⟨by rw [E.out]; rfl, S.out.below⟩
        · have E := Lib.hid (BADI.out (by unfold fieldOk; rw [show (x == 0) = false from beq_eq_false_iff_ne.2 (by omega), show decide (x < 16) = false from decide_eq_false (by omega)]; simp))
          go_wp2_with fail
          go_ret
          exact ⟨by rw [E.out]; rfl, S.out.below⟩
        · have E := Lib.hid (HKI.out (by unfold fieldOk; simp))
          go_wp2_with fail
          go_roundw
          case rel => exact ⟨i + 1, by omega, by go_num, S, E⟩
          case measure => first | (simp [intOf]; done) | (simp [intOf]; omega)
        · have hx0 : (x != 0) = true := by rw [bne_iff_ne]; omega
          cases y with
          | false =>
            have E := Lib.hid (BADI.out (by unfold fieldOk; rw [show (x == 0) = false from beq_eq_false_iff_ne.2 (by omega)]; simp))
            go_wp2_with fail
            go_ret
            exact ⟨by rw [E.out]; rfl, S.out.below⟩
          | true =>
            have E := Lib.hid (HKI.out (by unfold fieldOk; rw [show decide (0 < x) = true from decide_eq_true (by omega), show decide (x < 16) = true from decide_eq_true (by omega)]; simp))
            go_wp2_with fail
            go_roundw
            case rel => exact ⟨i + 1, by omega, by go_num, S, E⟩
            case measure => first | (simp [intOf]; done) | (simp [intOf]; omega)
      · have hi' : i = 3 := by omega
        subst hi'
        have cu : wr.cell? ⟨w1.heap.size, 3, none⟩ = some (.bool (u 3)) := S.out.b4.cell 3
        have l1 := S.out.b1.lt
        have l2 := S.out.b2.lt
        have l3 := S.out.b3.lt
        have c0 : wr.cell? ⟨w.heap.size, 0, none⟩ = some (.slice A ni ci) := S.out.b1.cell 0
        have c1 : wr.cell? ⟨w.heap.size, 1, none⟩ = some (.slice B nf cf) := S.out.b1.cell 1
        have c2 : wr.cell? ⟨w.heap.size, 2, none⟩ = some (.int .i64 m) := S.out.b1.cell 2
        have f0 : wr.cell? ⟨w.heap.size + 1, 0, none⟩ = some (.string f.name) := S.out.b2.cell 0
        have f1 : wr.cell? ⟨w.heap.size + 1, 1, none⟩ = some (.int .i64 f.frame) := S.out.b2.cell 1
        have f2 : wr.cell? ⟨w.heap.size + 1, 2, none⟩ = some (.int .i64 f.first) := S.out.b2.cell 2
        have f3 : wr.cell? ⟨w.heap.size + 1, 3, none⟩ = some (.int .i64 f.count) := S.out.b2.cell 3
        have f4 : wr.cell? ⟨w.heap.size + 1, 4, none⟩ = some (.int .i64 f.params) := S.out.b2.cell 4
        have i0 : wr.cell? ⟨w.heap.size + 1 + 1, 0, none⟩ = some (.int .i64 op) := S.out.b3.cell 0
        have i4 : wr.cell? ⟨w.heap.size + 1 + 1, 4, none⟩ = some (.int .i64 n) := S.out.b3.cell 4
        have FIN : Hid (insOk nf f ⟨op, a, b, c, n⟩ = numberOk nf f ⟨op, a, b, c, n⟩) := by
          show insOk nf f ⟨op, a, b, c, n⟩ = numberOk nf f ⟨op, a, b, c, n⟩
          rw [Bool.eq_iff_iff, HIFF2.out]
          exact ⟨fun h => h.2, fun h => ⟨HK.out, h⟩⟩
        cases hu : u 3 with
        | false =>
          rw [hu] at cu
          have E := Lib.hid (HNN2.out hu)
          clear HNN2 NC2 HIFF2 HK HLI
          go_wp2_with fail
          go_ret
          exact ⟨by rw [FIN.out, E.out]; rfl, S.out.below⟩
        | true =>
          rw [hu] at cu
          have NC3 := Lib.hid (fun w' => NC2.out hu w')
          clear HNN2 NC2 HIFF2 HK HLI
          go_wp2_with (first | (go_at_call 46; refine (NC3.out _).mono ?_; rintro e w3 ⟨rfl, hb⟩; have HB := Lib.hid hb; clear hb))
          go_ret
          exact ⟨by rw [FIN.out]; rfl, S.out.below.trans (HB.out.mono S.out.below.size)⟩
end Go.Proofs.Ytkjfbojmkkdgoaa
