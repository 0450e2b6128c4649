/- r16's function: the walk. -/
import Derived.Test.YtkjfbojmkkdgoaaA6
set_option linter.unusedVariables false
set_option linter.unusedSimpArgs false
namespace Go.Proofs.Ytkjfbojmkkdgoaa
open Go.RowKit
attribute [local go_sem ↓] Go.wp_at_zero Go.wp_at_succ
/-- Instructions that can be read at A. -/
def IL (w : World) (G : Nat → Prop) (A : Option Addr) (n : Nat) (X : Nat → Ins) : Prop :=
  n ≤ 9223372036854775807 ∧ ∀ i, i < n → InsIn (X i) ∧ ∃ b off, A = some ⟨b, off, none⟩ ∧ G b ∧ b < w.heap.size ∧
    w.cell? ⟨b, off + i * 5, none⟩ = some (.int .i64 (X i).op) ∧ w.cell? ⟨b, off + i * 5 + 1, none⟩ = some (.int .i64 (X i).a) ∧ w.cell? ⟨b, off + i * 5 + 2, none⟩ = some (.int .i64 (X i).b) ∧
    w.cell? ⟨b, off + i * 5 + 3, none⟩ = some (.int .i64 (X i).c) ∧ w.cell? ⟨b, off + i * 5 + 4, none⟩ = some (.int .i64 (X i).n)
/-- Functions' heads that can be read at A. -/
def FL (w : World) (G : Nat → Prop) (A : Option Addr) (n : Nat) (X : Nat → Fn) : Prop :=
  n ≤ 9223372036854775807 ∧ ∀ i, i < n → FnIn (X i) ∧ (X i).name.size ≤ 9223372036854775807 ∧ ∃ b off, A = some ⟨b, off, none⟩ ∧ G b ∧ b < w.heap.size ∧
    w.cell? ⟨b, off + i * 5, none⟩ = some (.string (X i).name) ∧ w.cell? ⟨b, off + i * 5 + 1, none⟩ = some (.int .i64 (X i).frame) ∧ w.cell? ⟨b, off + i * 5 + 2, none⟩ = some (.int .i64 (X i).first) ∧
    w.cell? ⟨b, off + i * 5 + 3, none⟩ = some (.int .i64 (X i).count) ∧ w.cell? ⟨b, off + i * 5 + 4, none⟩ = some (.int .i64 (X i).params)
def useBit (op m : Int) : Bool := bits BinOp.and IntKind.i64 (usesOf op).1 m != 0
def insOk (nf : Nat) (f : Fn) (i : Ins) : Bool := (usesOf i.op).2 && fieldOk i.a (useBit i.op 1) && fieldOk i.b (useBit i.op 2) && fieldOk i.c (useBit i.op 4) && numberOk nf f i
def lastOk (op : Int) : Bool := op == 21 || op == 27 || op == 35
def FnOk (nf : Nat) (X : Nat → Ins) (f : Fn) (fi cn : Nat) : Prop :=
  NameOk f.name ∧ 2 ≤ f.frame ∧ f.frame ≤ 1099511627776 ∧ 0 ≤ f.params ∧ f.params ≤ 8 ∧ (∀ j, j < cn → insOk nf f (X (fi + j)) = true) ∧ lastOk (X (fi + (cn - 1))).op = true
def FnPost (nf : Nat) (X : Nat → Ins) (f : Fn) (fi cn : Nat) (w : World) (e : Ending) (w' : World) : Prop := ∃ r, e = .returned (.bool r) ∧ (r = true ↔ FnOk nf X f fi cn) ∧ Below w.heap.size w w'
/-- What stands through a call of function. -/
structure FS (w wr : World) (G : Nat → Prop) (A : Option Addr) (ni : Nat) (X : Nat → Ins) (cc ff : Array Value) : Prop where
  b1 : Blk wr w.heap.size 25 cc
  b2 : Blk wr (w.heap.size + 1) 61 ff
  il : IL wr G A ni X
  below : Below w.heap.size w wr
theorem IL.only {w w' : World} {G F : Nat → Prop} {A : Option Addr} {n : Nat} {X : Nat → Ins} (h : IL w G A n X) (o : Only F w w') (hd : ∀ b, b < w.heap.size → G b → ¬ F b) : IL w' G A n X :=
  ⟨h.1, fun i hi => let ⟨h1, b, off, h2, h3, h4, c0, c1, c2, c3, c4⟩ := h.2 i hi
    have k := fun (j : Nat) => o.cell (o := j) h4 (hd b h4 h3)
    ⟨h1, b, off, h2, h3, Nat.lt_of_lt_of_le h4 o.size, (k _).trans c0, (k _).trans c1, (k _).trans c2, (k _).trans c3, (k _).trans c4⟩⟩
theorem FS.later {w wr w2 : World} {G : Nat → Prop} {A : Option Addr} {ni : Nat} {X : Nat → Ins} {cc ff : Array Value} (h : FS w wr G A ni X cc ff) (hb : Below wr.heap.size wr w2) : FS w w2 G A ni X cc ff :=
  ⟨h.b1.below hb h.b1.lt, h.b2.below hb h.b2.lt, h.il.only (Only.ofBelow (F := fun _ => False) hb) (fun _ _ _ h => h), h.below.trans (hb.mono h.below.size)⟩
theorem FS.start {w : World} {G : Nat → Prop} {A : Option Addr} {ni : Nat} {X : Nat → Ins} (h : IL w G A ni X) (cc ff : Array Value) : FS w ((w.alloc (.cells cc 25)).alloc (.cells ff 61)) G A ni X cc ff := by
  have z : (w.alloc (.cells cc 25)).heap.size = w.heap.size + 1 := by simp
  have b2 := Blk.new (w.alloc (.cells cc 25)) 61 ff
  rw [z] at b2
  exact ⟨(Blk.new w 25 cc).alloc _, b2, (h.only ((Only.refl (fun _ => False) w).alloc _) (fun _ _ _ h => h)).only ((Only.refl (fun _ => False) _).alloc _) (fun _ _ _ h => h), ba (ba (Below.refl _ _) _) _⟩
set_option maxRecDepth 100000 in
set_option maxHeartbeats 16000000 in
theorem function_c (w : World) (G : Nat → Prop) (A : Option Addr) (ni ci : Nat) (X : Nat → Ins) (B : Option Addr) (nf cf : Nat) (m : Int) (f : Fn) (fi cn : Nat) (h : IL w G A ni X) (hci : ni ≤ ci) (hf : FnIn f) (hs : f.name.size ≤ 9223372036854775807) (hnf : nf ≤ 9223372036854775807) (h1 : f.first = (fi : Int)) (h2 : f.count = (cn : Int)) (hc1 : 1 ≤ cn) (hle : fi + cn ≤ ni) :
    Calls Try.prog 30 #[codeV A ni ci B nf cf m, fnV f] w (FnPost nf X f fi cn w) := by
  have BAD := Lib.hid (fun (hn : ¬ FnOk nf X f fi cn) (w' : World) (hw : Below w.heap.size w w') => show FnPost nf X f fi cn w (.returned (.bool false)) w' from ⟨false, rfl, Iff.intro (fun h => by cases h) (fun h => absurd h hn), hw⟩)
  have GOOD := Lib.hid (fun (hr : FnOk nf X f fi cn) (w' : World) (hw : Below w.heap.size w w') => show FnPost nf X f fi cn w (.returned (.bool true)) w' from ⟨true, rfl, Iff.intro (fun _ => hr) (fun _ => rfl), hw⟩)
  have NC := Lib.hid (fun w' => rname_c f.name hs w')
  have S0 := Lib.hid (FS.start h #[.slice A ni ci, .slice B nf cf, .int .i64 m] #[.string f.name, .int .i64 f.frame, .int .i64 f.first, .int .i64 f.count, .int .i64 f.params])
  have hni := h.1
  have HFI := Lib.hid hf
  obtain ⟨⟨f1, f2⟩, ⟨f3, f4⟩, ⟨f5, f6⟩, ⟨f7, f8⟩⟩ := hf
  have HH1 := Lib.hid h1
  have HH2 := Lib.hid h2
  clear h
  obtain ⟨name, frame, first, count, params⟩ := f
  simp only at h1 h2 f1 f2 f3 f4 f5 f6 f7 f8 hs
  subst h1 h2
  unfold codeV fnV
  simp only
  go_enter Try.func30, Try.ntmps30
  go_wp2_with fail
  refine (NC.out _).mono ?_
  rintro e w1 ⟨r, rfl, hr, hb⟩
  have HR := Lib.hid hr
  have S1 := Lib.hid (S0.out.later hb)
  clear hb hr S0 NC
  cases r with
  | false =>
    have E := Lib.hid (BAD.out (fun h => by have := HR.out.2 h.1; cases this) w1 S1.out.below)
    clear BAD GOOD
    go_wp2_with fail
    go_ret
    exact E.out
  | true =>
    have HN := Lib.hid (HR.out.1 rfl)
    have c1 : w1.cell? ⟨w.heap.size + 1, 1, none⟩ = some (.int .i64 frame) := S1.out.b2.cell 1
    have c4 : w1.cell? ⟨w.heap.size + 1, 4, none⟩ = some (.int .i64 params) := S1.out.b2.cell 4
    have c2 : w1.cell? ⟨w.heap.size + 1, 2, none⟩ = some (.int .i64 (fi : Int)) := S1.out.b2.cell 2
    have c3 : w1.cell? ⟨w.heap.size + 1, 3, none⟩ = some (.int .i64 (cn : Int)) := S1.out.b2.cell 3
    have cA : w1.cell? ⟨w.heap.size, 0, none⟩ = some (.slice A ni ci) := S1.out.b1.cell 0
    rcases (show frame < 2 ∨ (2 ≤ frame ∧ 1099511627776 < frame) ∨ (2 ≤ frame ∧ frame ≤ 1099511627776 ∧ params < 0) ∨ (2 ≤ frame ∧ frame ≤ 1099511627776 ∧ 0 ≤ params ∧ 8 < params) ∨ (2 ≤ frame ∧ frame ≤ 1099511627776 ∧ 0 ≤ params ∧ params ≤ 8) by omega) with g | ⟨g1, g2⟩ | ⟨g1, g2, g3⟩ | ⟨g1, g2, g3, g4⟩ | ⟨g1, g2, g3, g4⟩
    · have E := Lib.hid (BAD.out (fun h => by have := h.2.1; simp only at this; omega) w1 S1.out.below)
      clear BAD GOOD
      go_wp2_with fail
      go_ret
      exact E.out
    · have E := Lib.hid (BAD.out (fun h => by have := h.2.2.1; simp only at this; omega) w1 S1.out.below)
      clear BAD GOOD
      go_wp2_with fail
      go_ret
      exact E.out
    · have E := Lib.hid (BAD.out (fun h => by have := h.2.2.2.1; simp only at this; omega) w1 S1.out.below)
      clear BAD GOOD
      go_wp2_with fail
      go_ret
      exact E.out
    · have E := Lib.hid (BAD.out (fun h => by have := h.2.2.2.2.1; simp only at this; omega) w1 S1.out.below)
      clear BAD GOOD
      go_wp2_with fail
      go_ret
      exact E.out
    · obtain ⟨_, b, off, rfl, _⟩ := S1.out.il.2 fi (by omega)
      go_wp2_with fail
      simp only [Nat.add_sub_cancel_left]
      clear c1 c2 c3 c4 cA
      go_loopw [44] (fun jv wx => ∃ j : Nat, j ≤ cn ∧ jv = .int .i64 (j : Int) ∧ Hid (FS w wx G (some ⟨b, off, none⟩) ni X #[.slice (some ⟨b, off, none⟩) ni ci, .slice B nf cf, .int .i64 m] #[.string name, .int .i64 frame, .int .i64 (fi : Int), .int .i64 (cn : Int), .int .i64 params]) ∧ Hid (∀ t, t < j → insOk nf ⟨name, frame, fi, cn, params⟩ (X (fi + t)) = true)) (fun jv _ => cn - (intOf jv).toNat)
      case atStart => exact ⟨0, by omega, rfl, S1, fun t ht => absurd ht (Nat.not_lt_zero _)⟩
      case round =>
        clear S1
        obtain ⟨j, hj, rfl, S, HK⟩ := hrel
        by_cases hlt : j < cn
        · obtain ⟨hin, b2, off2, ee, _, hbl, k0, k1, k2, k3, k4⟩ := S.out.il.2 (fi + j) (by omega)
          injection ee with ee
          injection ee with e1 e2 _
          subst e1 e2
          rw [Nat.add_mul, ← Nat.add_assoc] at k0 k1 k2 k3 k4
          have p0 : wr.cell? ⟨w.heap.size, 0, none⟩ = some (.slice (some ⟨b, off, none⟩) ni ci) := S.out.b1.cell 0
          have hl1 := S.out.b1.lt
          have hl2 := S.out.b2.lt
          have p1 : wr.cell? ⟨w.heap.size, 1, none⟩ = some (.slice B nf cf) := S.out.b1.cell 1
          have p2 : wr.cell? ⟨w.heap.size, 2, none⟩ = some (.int .i64 m) := S.out.b1.cell 2
          have q0 : wr.cell? ⟨w.heap.size + 1, 0, none⟩ = some (.string name) := S.out.b2.cell 0
          have q1 : wr.cell? ⟨w.heap.size + 1, 1, none⟩ = some (.int .i64 frame) := S.out.b2.cell 1
          have q2 : wr.cell? ⟨w.heap.size + 1, 2, none⟩ = some (.int .i64 (fi : Int)) := S.out.b2.cell 2
          have q3 : wr.cell? ⟨w.heap.size + 1, 3, none⟩ = some (.int .i64 (cn : Int)) := S.out.b2.cell 3
          have q4 : wr.cell? ⟨w.heap.size + 1, 4, none⟩ = some (.int .i64 params) := S.out.b2.cell 4
          have BADJ := Lib.hid (fun (hn : insOk nf ⟨name, frame, fi, cn, params⟩ (X (fi + j)) = false) => fun (w' : World) (hw : Below w.heap.size w w') => BAD.out (fun h => by have := h.2.2.2.2.2.1 j hlt; rw [hn] at this; cases this) w' hw)
          have HKJ := Lib.hid (fun (hy : insOk nf ⟨name, frame, fi, cn, params⟩ (X (fi + j)) = true) => show ∀ t, t < j + 1 → insOk nf ⟨name, frame, fi, cn, params⟩ (X (fi + t)) = true from fun t ht => by
            by_cases he : t = j
            · rw [he]; exact hy
            · exact HK.out t (by omega))
          have NC := Lib.hid (fun w' => number_c (some ⟨b, off, none⟩) ni ci B nf cf m ⟨name, frame, fi, cn, params⟩ ⟨⟨f1, f2⟩, ⟨f3, f4⟩, ⟨f5, f6⟩, ⟨f7, f8⟩⟩ (by simp) (X (fi + j)) hin hnf w')
          generalize X (fi + j) = x at *
          obtain ⟨op, a, bb, c, n⟩ := x
          obtain ⟨⟨o1, o2⟩, ⟨a1, a2⟩, ⟨b1, b3⟩, ⟨cc1, cc2⟩, ⟨n1, n2⟩⟩ := hin
          simp only at k0 k1 k2 k3 k4 o1 o2 a1 a2 b1 b3 cc1 cc2 n1 n2
          have UC := Lib.hid (fun w' => uses_c op ⟨o1, o2⟩ w')
          have FC := Lib.hid (fun (n : Int) (hn : i64in n) (u : Bool) (w' : World) => field_c n hn u w')
          unfold insOk useBit codeV fnV insV at *
          simp only at NC BADJ HKJ
          generalize numberOk nf ⟨name, frame, fi, cn, params⟩ ⟨op, a, bb, c, n⟩ = nm at *
          generalize (usesOf op).1 = u at *
          generalize (usesOf op).2 = okv at *
          have S2 := Lib.hid (fun cs (w' : World) (hb : Below (wr.alloc (.cells cs 54)).heap.size (wr.alloc (.cells cs 54)) w') => S.out.later ((ba (Below.refl _ wr) (.cells cs 54)).trans (hb.mono (by simp))))
          have S3 := Lib.hid (fun cs => S.out.later (ba (Below.refl _ wr) (.cells cs 54)))
          clear S HK
          cases okv with
          | false =>
            have E := Lib.hid (BADJ.out rfl)
            clear BADJ HKJ BAD GOOD
            go_wp2_with (first
              | (go_at_call 48; refine (UC.out _).mono ?_; rintro e w2 ⟨rfl, hw2⟩; subst w2))
            go_ret
            exact E.out _ (S3.out _).below
          | true =>
            have FA := Lib.hid (fun w' => FC.out a ⟨a1, a2⟩ (bits BinOp.and IntKind.i64 u 1 != 0) w')
            have FB := Lib.hid (fun w' => FC.out bb ⟨b1, b3⟩ (bits BinOp.and IntKind.i64 u 2 != 0) w')
            have FCC := Lib.hid (fun w' => FC.out c ⟨cc1, cc2⟩ (bits BinOp.and IntKind.i64 u 4 != 0) w')
            clear FC
            generalize fieldOk a (bits BinOp.and IntKind.i64 u 1 != 0) = fa at *
            generalize fieldOk bb (bits BinOp.and IntKind.i64 u 2 != 0) = fb at *
            generalize fieldOk c (bits BinOp.and IntKind.i64 u 4 != 0) = fc at *
            cases fa with
            | false =>
              have E := Lib.hid (BADJ.out rfl)
              clear BADJ HKJ BAD GOOD
              go_wp2_with (first
                | (go_at_call 49; refine (FA.out _).mono ?_; rintro e w2 ⟨rfl, hw2⟩; subst w2; have P1 := True.intro)
                | (go_at_call 48; refine (UC.out _).mono ?_; rintro e w2 ⟨rfl, hw2⟩; subst w2))
              go_ret
              exact E.out _ (S3.out _).below
            | true =>
            cases fb with
            | false =>
              have E := Lib.hid (BADJ.out rfl)
              clear BADJ HKJ BAD GOOD
              go_wp2_with (first
                | (have Q2 := P1; go_at_call 49; refine (FB.out _).mono ?_; rintro e w2 ⟨rfl, hw2⟩; subst w2; have P2 := True.intro)
                | (go_at_call 49; refine (FA.out _).mono ?_; rintro e w2 ⟨rfl, hw2⟩; subst w2; have P1 := True.intro)
                | (go_at_call 48; refine (UC.out _).mono ?_; rintro e w2 ⟨rfl, hw2⟩; subst w2))
              go_ret
              exact E.out _ (S3.out _).below
            | true =>
            cases fc with
            | false =>
              have E := Lib.hid (BADJ.out rfl)
              clear BADJ HKJ BAD GOOD
              go_wp2_with (first
                | (have Q3 := P2; go_at_call 49; refine (FCC.out _).mono ?_; rintro e w2 ⟨rfl, hw2⟩; subst w2; have P3 := True.intro)
                | (have Q2 := P1; go_at_call 49; refine (FB.out _).mono ?_; rintro e w2 ⟨rfl, hw2⟩; subst w2; have P2 := True.intro)
                | (go_at_call 49; refine (FA.out _).mono ?_; rintro e w2 ⟨rfl, hw2⟩; subst w2; have P1 := True.intro)
                | (go_at_call 48; refine (UC.out _).mono ?_; rintro e w2 ⟨rfl, hw2⟩; subst w2))
              go_ret
              exact E.out _ (S3.out _).below
            | true =>
            cases nm with
            | false =>
              have E := Lib.hid (BADJ.out rfl)
              clear BADJ HKJ BAD GOOD
              go_wp2_with (first
                | (have Q3 := P2; go_at_call 49; refine (FCC.out _).mono ?_; rintro e w2 ⟨rfl, hw2⟩; subst w2; have P3 := True.intro)
                | (have Q2 := P1; go_at_call 49; refine (FB.out _).mono ?_; rintro e w2 ⟨rfl, hw2⟩; subst w2; have P2 := True.intro)
                | (go_at_call 49; refine (FA.out _).mono ?_; rintro e w2 ⟨rfl, hw2⟩; subst w2; have P1 := True.intro)
                | (go_at_call 48; refine (UC.out _).mono ?_; rintro e w2 ⟨rfl, hw2⟩; subst w2)
                | (go_at_call 50; refine (NC.out _).mono ?_; rintro e w2 ⟨rfl, hb2⟩; have HB2 := Lib.hid hb2; clear hb2))
              go_ret
              exact E.out _ (S2.out _ _ HB2.out).below
            | true =>
              have HKN := Lib.hid (HKJ.out rfl)
              clear BADJ HKJ BAD GOOD
              go_wp2_with (first
                | (have Q3 := P2; go_at_call 49; refine (FCC.out _).mono ?_; rintro e w2 ⟨rfl, hw2⟩; subst w2; have P3 := True.intro)
                | (have Q2 := P1; go_at_call 49; refine (FB.out _).mono ?_; rintro e w2 ⟨rfl, hw2⟩; subst w2; have P2 := True.intro)
                | (go_at_call 49; refine (FA.out _).mono ?_; rintro e w2 ⟨rfl, hw2⟩; subst w2; have P1 := True.intro)
                | (go_at_call 48; refine (UC.out _).mono ?_; rintro e w2 ⟨rfl, hw2⟩; subst w2)
                | (go_at_call 50; refine (NC.out _).mono ?_; rintro e w2 ⟨rfl, hb2⟩; have HB2 := Lib.hid hb2; clear hb2))
              go_roundw
              case rel => exact ⟨j + 1, by omega, by go_num, S2.out _ _ HB2.out, HKN.out⟩
              case measure => first | (simp [intOf]; done) | (simp [intOf]; omega)
        · have hk1 : cn - 1 < cn := by omega
          obtain ⟨_, b2, off2, ee, _, _, k0, _⟩ := S.out.il.2 (fi + (cn - 1)) (by omega)
          injection ee with ee
          injection ee with e1 e2 _
          subst e1 e2
          have p0 : wr.cell? ⟨w.heap.size, 0, none⟩ = some (.slice (some ⟨b, off, none⟩) ni ci) := S.out.b1.cell 0
          have q2 : wr.cell? ⟨w.heap.size + 1, 2, none⟩ = some (.int .i64 (fi : Int)) := S.out.b2.cell 2
          have q3 : wr.cell? ⟨w.heap.size + 1, 3, none⟩ = some (.int .i64 (cn : Int)) := S.out.b2.cell 3
          have hix : ((fi : Int) + (cn : Int) - 1).toNat = fi + (cn - 1) := by omega
          have HALL : Hid (∀ t, t < cn → insOk nf ⟨name, frame, fi, cn, params⟩ (X (fi + t)) = true) := fun t ht => HK.out t (by omega)
          have FIN : Hid (lastOk (X (fi + (cn - 1))).op = true → FnPost nf X ⟨name, frame, fi, cn, params⟩ fi cn w (.returned (.bool true)) wr) := fun hl => GOOD.out ⟨HN.out, g1, g2, g3, g4, HALL.out, hl⟩ wr S.out.below
          have FINB : Hid (lastOk (X (fi + (cn - 1))).op = false → FnPost nf X ⟨name, frame, fi, cn, params⟩ fi cn w (.returned (.bool false)) wr) := fun hl => BAD.out (fun h => by have := h.2.2.2.2.2.2; rw [hl] at this; cases this) wr S.out.below
          clear BAD GOOD HK HALL S
          generalize (X (fi + (cn - 1))).op = lo at *
          generalize hmm : fi + (cn - 1) = mm at *
          clear hmm
          cases l1 : (lo == 21) with
          | true =>
            have E := Lib.hid (FIN.out (by unfold lastOk; rw [l1]; rfl))
            clear FIN FINB
            go_wp2_with fail
            go_ret
            exact E.out
          | false =>
          cases l2 : (lo == 27) with
          | true =>
            have E := Lib.hid (FIN.out (by unfold lastOk; rw [l1, l2]; rfl))
            clear FIN FINB
            go_wp2_with fail
            go_ret
            exact E.out
          | false =>
          cases l3 : (lo == 35) with
          | true =>
            have E := Lib.hid (FIN.out (by unfold lastOk; rw [l1, l2, l3]; rfl))
            clear FIN FINB
            go_wp2_with fail
            go_ret
            exact E.out
          | false =>
            have E := Lib.hid (FINB.out (by unfold lastOk; rw [l1, l2, l3]; rfl))
            clear FIN FINB
            go_wp2_with fail
            go_ret
            exact E.out
end Go.Proofs.Ytkjfbojmkkdgoaa
