/- OrderWays: the walk. -/
import Derived.Test.YtdpeckfdilpidaaW6
import Derived.Test.YtdpeckfdilpidaaW7
import Derived.Test.YtdpeckfdilpidaaW9
import Derived.Test.YtdpeckfdilpidaaW10
import Derived.Test.YtdpeckfdilpidaaW11
import Derived.Test.YtdpeckfdilpidaaPlain6
set_option linter.unusedVariables false
set_option linter.unusedSimpArgs false
namespace Go.Proofs.Ytdpeckfdilpidaa
open Go.RowKit
attribute [local go_sem ↓] Go.wp_at_zero Go.wp_at_succ
/-- The joined blocks, as far as they are laid. -/
structure TI (w wr : World) (X : Nat → List Int) (v : Value) (N : Nat) (F : Nat → Prop) (V : Nat → Value) : Prop where
  ll : LL wr F 27 v N V X
  ft : ∀ b, F b → w.heap.size ≤ b ∧ b < wr.heap.size
  below : Below w.heap.size w wr
theorem TI.start {w wr : World} {X : Nat → List Int} (hb : Below w.heap.size w wr) {x y : Int} (hX : X 0 = [x, y]) :
    TI w ((wr.alloc (.cells #[.int .i64 x, .int .i64 y] 3)).alloc (.cells #[.slice (some ⟨wr.heap.size, 0, none⟩) 2 2] 27)) X (.slice (some ⟨wr.heap.size + 1, 0, none⟩) 1 1) 1 (fun b => wr.heap.size ≤ b ∧ b < wr.heap.size + 2) (fun _ => .slice (some ⟨wr.heap.size, 0, none⟩) 2 2) := by
  have hs := hb.size
  have z1 : (wr.alloc (.cells #[.int .i64 x, .int .i64 y] 3)).heap.size = wr.heap.size + 1 := by simp
  have b1 : Blk ((wr.alloc (.cells #[.int .i64 x, .int .i64 y] 3)).alloc (.cells #[.slice (some ⟨wr.heap.size, 0, none⟩) 2 2] 27)) wr.heap.size 3 #[.int .i64 x, .int .i64 y] := (Blk.new wr 3 _).alloc _
  have b2 : Blk ((wr.alloc (.cells #[.int .i64 x, .int .i64 y] 3)).alloc (.cells #[.slice (some ⟨wr.heap.size, 0, none⟩) 2 2] 27)) (wr.heap.size + 1) 27 #[.slice (some ⟨wr.heap.size, 0, none⟩) 2 2] := by
    have := Blk.new (wr.alloc (.cells #[.int .i64 x, .int .i64 y] 3)) 27 #[.slice (some ⟨wr.heap.size, 0, none⟩) 2 2]
    rwa [z1] at this
  have r1 := Row.fresh (l := [x, y]) b1 rfl (by simp [maxLen])
  refine ⟨⟨⟨⟨by simp [heads], .inr ⟨wr.heap.size + 1, 1, _, rfl, Nat.zero_le _, b2, Nat.le_refl _, by simp [maxLen], rfl, by simp [heads]⟩⟩, fun b hb => ?_⟩, fun k hk => ?_, fun k k' hk hk' hne => by omega⟩, fun b hb => ?_, (hb.alloc hs _).alloc (by rw [z1]; omega) _⟩
  · simp [Value.ownBlock] at hb; omega
  · obtain rfl : k = 0 := by omega
    rw [hX]
    exact r1.mono fun b _ hb => by omega
  · simp; omega
theorem TI.below' {w wr w2 : World} {X : Nat → List Int} {v : Value} {N : Nat} {F : Nat → Prop} {V : Nat → Value} (h : TI w wr X v N F V) (hb : Below wr.heap.size wr w2) : TI w w2 X v N F V :=
  ⟨h.ll.only (Only.ofBelow (F := fun _ => False) hb) (fun _ _ _ h => h), fun b hf => ⟨(h.ft b hf).1, Nat.lt_of_lt_of_le (h.ft b hf).2 hb.size⟩, h.below.trans (hb.mono h.below.size)⟩
theorem TI.push {w wr w2 w4 : World} {X : Nat → List Int} {v v1 u : Value} {N : Nat} {F : Nat → Prop} {V : Nat → Value} {obj : Obj} (h : TI w wr X v N F V) (hb : Below wr.heap.size wr w2) (hu : Row w2 (fun b => wr.heap.size ≤ b) 3 1 u (X N).length (nums (X N)))
    (hown : w4.ownsRow 0 27 1 v1 (N + 1) (heads N V ++ [u])) (hg : (w2.alloc obj).grownBy w4 v.ownBlock) (hat : v1.ownBlock = v.ownBlock ∨ ∃ k, v1.ownBlock = some k ∧ w2.heap.size ≤ k) :
    ∃ F' V', TI w w4 X v1 (N + 1) F' V' := by
  have h2 := h.below' hb
  have hl : LL (w2.alloc obj) F 27 v N V X := h2.ll.only ((Only.refl (fun _ => False) w2).alloc obj) (fun _ _ _ h => h)
  have hu' : Row (w2.alloc obj) (fun b => wr.heap.size ≤ b ∧ b < w2.heap.size) 3 1 u (X N).length (nums (X N)) := (hu.mono fun b hb hf => ⟨hf, hb⟩).alloc obj
  have hp := hl.pushed (by decide) hu' (fun b hf hF => by have := (h.ft b hF).2; omega) hown hg
  have o : Only (fun k => v.ownBlock = some k) w2 w4 := ((Only.refl _ w2).alloc obj).grown hg fun k hk => .inl hk
  have s1 := o.size
  have s0 := hb.size
  have s2 := h.below.size
  refine ⟨_, _, hp.congr (fun k hk => ?_), fun b hf => ?_, h2.below.trans (o.toBelow (by omega) fun k hk hf => ?_)⟩
  · by_cases he : k = N
    · subst he; rw [updf_same]
    · rw [updf_other _ _ _ he]
  · rcases hf with e | e | e
    · have := h.ft b e; omega
    · omega
    · have hlt := (hown.lt b e).2
      rcases hat with e2 | ⟨k, e2, e3⟩
      · have := h.ft b (h.ll.row.2 b (by rw [← e2]; exact e)); omega
      · rw [e] at e2; injection e2 with e2; omega
  · have := (h.ft k (h.ll.row.2 k hf)).1; omega
theorem TI.reads {w wr : World} {X : Nat → List Int} {A : Option Addr} {cap : Nat} {N : Nat} {F : Nat → Prop} {V : Nat → Value} (h : TI w wr X (.slice A N cap) N F V) (hN : N ≤ 1000000) (hR : Right N X) (hx : ∀ k, k < N → (X k).length ≤ 1000000) : RLL wr (fun b => b < wr.heap.size) A N X :=
  (h.ll.reads (by omega) fun k hk => ⟨by have := hx k hk; omega, fun i hi => by have := hR k hk i hi; exact ⟨by omega, by omega⟩⟩).more fun b _ hb => (h.ft b hb).2
/-- What the argument gives in a later world. -/
theorem RLL.later {w w' : World} {A : Option Addr} {len : Nat} {X : Nat → List Int} (h : RLL w (fun b => b < w.heap.size) A len X) (hb : Below w.heap.size w w') : RLL w' (fun b => b < w'.heap.size) A len X :=
  (h.only (Only.ofBelow (F := fun _ => False) hb) (fun _ _ _ h => h)).more fun b _ hf => Nat.lt_of_lt_of_le hf hb.size
def WaysPost (w : World) (e : Ending) (w' : World) : Prop := e = .returned (.bool true) ∧ Below w.heap.size w w'
theorem ways_len {X : Nat → List Int} {len m k : Nat} (h : ¬ m < waysOf X len len) (hk : k < len) : len ≤ m ∧ (X k).length ≤ m := by
  have h1 : (X k).length ≤ tot (fun j => (X j).length) len := by
    have h2 := tot_mono (fun j => (X j).length) (show k + 1 ≤ len from hk)
    simp only [tot] at h2
    omega
  unfold waysOf at h
  omega
set_option maxRecDepth 100000 in
set_option maxHeartbeats 16000000 in
theorem ways_c (w : World) (A1 : Option Addr) (n1 c1 : Nat) (X1 : Nat → List Int) (A2 : Option Addr) (n2 c2 : Nat) (X2 : Nat → List Int) (r1 : RLL w (fun b => b < w.heap.size) A1 n1 X1) (r2 : RLL w (fun b => b < w.heap.size) A2 n2 X2)
    (s1 : ∀ k, k < n1 → (X1 k).length ≤ 4611686018427387904) (l1 : n1 ≤ 4611686018427387904) (s2 : ∀ k, k < n2 → (X2 k).length ≤ 4611686018427387904) (l2 : n2 ≤ 4611686018427387904) :
    Calls Try.prog 6 #[.slice A1 n1 c1, .slice A2 n2 c2] w (WaysPost w) := by
  have AC := Lib.hid (alive_c w)
  have R1 := Lib.hid r1
  have R2 := Lib.hid r2
  have H1 := Lib.hid (fun (w' : World) (hb : Below w.heap.size w w') => heavy_c w' _ A1 n1 c1 X1 (r1.later hb) 20000 (by omega) s1 l1)
  have H2 := Lib.hid (fun (w' : World) (hb : Below w.heap.size w w') => heavy_c w' _ A2 n2 c2 X2 (r2.later hb) 20000 (by omega) s2 l2)
  have G1 := Lib.hid (fun (w' : World) (hb : Below w.heap.size w w') => right_c w' _ A1 n1 c1 X1 (r1.later hb))
  have G2 := Lib.hid (fun (w' : World) (hb : Below w.heap.size w w') => right_c w' _ A2 n2 c2 X2 (r2.later hb))
  clear r1 r2 s1 s2
  by_cases g1 : 20000 < waysOf X1 n1 n1
  · rw [decide_eq_true g1] at H1
    go_enter Try.func6, Try.ntmps6
    go_wp2_with (first | (go_at_call 9; refine AC.out.mono ?_; rintro e w1 ⟨rfl, hb1⟩; have HB := Lib.hid hb1; clear hb1) | (go_at_call 10; refine (H1.out _ HB.out).mono ?_; rintro e w2 ⟨rfl, rfl⟩))
    go_ret
    exact ⟨rfl, HB.out⟩
  rw [decide_eq_false g1] at H1
  by_cases g2 : 20000 < waysOf X2 n2 n2
  · rw [decide_eq_true g2] at H2
    go_enter Try.func6, Try.ntmps6
    go_wp2_with (first | (go_at_call 9; refine AC.out.mono ?_; rintro e w1 ⟨rfl, hb1⟩; have HB := Lib.hid hb1; clear hb1) | (have H3 := HX; go_at_call 10; refine (H2.out _ HB.out).mono ?_; rintro e w2 ⟨rfl, rfl⟩) | (go_at_call 10; refine (H1.out _ HB.out).mono ?_; rintro e w2 ⟨rfl, rfl⟩; have HX := HB))
    go_ret
    exact ⟨rfl, HB.out⟩
  rw [decide_eq_false g2] at H2
  go_enter Try.func6, Try.ntmps6
  go_wp2_with (first | (go_at_call 9; refine AC.out.mono ?_; rintro e w1 ⟨rfl, hb1⟩; have HB := Lib.hid hb1; clear hb1) | (have H3 := HX; go_at_call 10; refine (H2.out _ HB.out).mono ?_; rintro e w2 ⟨rfl, rfl⟩) | (go_at_call 10; refine (H1.out _ HB.out).mono ?_; rintro e w2 ⟨rfl, rfl⟩; have HX := HB))
  refine (G1.out _ HB.out).mono ?_
  rintro e w2 ⟨b1, rfl, hb1, rfl⟩
  have RB1 := Lib.hid hb1
  clear hb1
  go_wp2_with fail
  refine (G2.out _ HB.out).mono ?_
  rintro e w3 ⟨b2, rfl, hb2, rfl⟩
  have RB2 := Lib.hid hb2
  clear hb2
  cases b1 with
  | false =>
    go_wp2_with fail
    go_ret
    exact ⟨rfl, HB.out⟩
  | true =>
  cases b2 with
  | false =>
    go_wp2_with fail
    go_ret
    exact ⟨rfl, HB.out⟩
  | true =>
  obtain ⟨hR1, p1⟩ := RB1.out.1 rfl
  obtain ⟨hR2, p2⟩ := RB2.out.1 rfl
  have XR1 := Lib.hid hR1
  have XR2 := Lib.hid hR2
  have W1 := Lib.hid (fun k (hk : k < n1) => ways_len g1 hk)
  have W2 := Lib.hid (fun k (hk : k < n2) => ways_len g2 hk)
  have hn1 : n1 ≤ 20000 := (W1.out 0 p1).1
  have hn2 : n2 ≤ 20000 := (W2.out 0 p2).1
  have XR := Lib.hid (WX_right (n1 := n1) (n2 := n2) (X1 := X1) (X2 := X2) hR1 hR2 p1 p2)
  have S0 := Lib.hid (TI.start (X := WX n1 X1 X2) HB.out WX0)
  obtain ⟨i1, kI, kz0, kz1, kz2⟩ := info_parts info27
  have KI := Lib.hid kI
  have KZ0 := Lib.hid kz0
  have KZ1 := Lib.hid kz1
  have KZ2 := Lib.hid kz2
  clear hR1 hR2 RB1 RB2 G1 G2 H1 H2 H3 g1 g2 kI kz0 kz1 kz2 AC HX l1 l2
  go_wp2_with fail
  go_loopw [8, 9] (fun tv iv wr => ∃ k : Nat, k ≤ n1 ∧ iv = .int .i64 (k : Int) ∧ Hid (∃ F V, TI w wr (WX n1 X1 X2) tv (1 + k) F V)) (fun _ iv _ => n1 - (intOf iv).toNat)
  case atStart => exact ⟨0, by omega, rfl, _, _, S0.out⟩
  case round =>
    clear S0 HB
    obtain ⟨k, hk, rfl, HR⟩ := hrel
    by_cases hlt : k < n1
    · obtain ⟨F, V, hT⟩ := HR.out
      have T := Lib.hid hT
      clear hT HR
      obtain ⟨b, off, Ak, ck, rfl, hGb, hbl, ck0, hRL⟩ := (R1.out.later T.out.below).at_ k hlt
      have e1 : WX n1 X1 X2 (1 + k) = up (X1 k) 1 := by rw [WX1 (by omega) (by omega), Nat.add_sub_cancel_left]
      have E1 := Lib.hid e1
      have SC : Hid (Calls Try.prog 18 #[.slice Ak (X1 k).length ck, .int .i64 1] wr (ShiftedPost wr (up (X1 k) 1))) :=
        shifted_c wr _ Ak ck (X1 k) hRL (fun _ h => h) 1 (by omega) (by have := (W1.out k hlt).2; omega) (fun i hi => by have := XR1.out k hlt i hi; omega)
      obtain ⟨At, ct, rfl, hct⟩ := T.out.ll.row.shape
      clear hRL e1
      generalize (X1 k).length = L1 at *
      go_wp2_with (first
        | (go_at_call 18; refine SC.out.mono ?_; rintro e w2 ⟨u, rfl, hu, hb⟩; have HU := Lib.hid hu; have HB2 := Lib.hid hb; obtain ⟨Au, cu, rfl, hcu⟩ := hu.shape; clear hu hb; have DR := Lib.hid (T.out.below' HB2.out).ll.row.1)
        | (at_builtin; go_must (refine wpList_append_lies _ rfl (.tmp 50) (.tmp 56) 22 rfl 0 27 i1 _ 1 24 Try.underlying22 KI.out KZ0.out KZ1.out KZ2.out rfl (by omega) (.slice At (1 + k) ct) (1 + k) (heads (1 + k) V) rfl (DR.out.alloc _) ⟨w2.heap.size, 0, none⟩ 1 1 [.slice Au (up (X1 k) 1).length cu] rfl rfl (World.news_of_block (cs := #[.slice Au (up (X1 k) 1).length cu]) (t := 27) (fr := (0, 0)) (heap_alloc_new _ _)) (by simp [Value.oneCell']) (by omega) (by unfold maxLen; omega) (by omega) (Nat.zero_le _) (w2.heap.size + 1) (by simp) ?_); go_must (intro gg cap' w4 hown hgrow hat hlt4; have HW := Lib.hid hown; have HGr := Lib.hid hgrow; have HA := Lib.hid hat; clear hown hgrow hat)))
      go_roundw
      case rel =>
        refine ⟨k + 1, by omega, by go_num, ?_⟩
        have := T.out.push HB2.out (u := .slice Au (up (X1 k) 1).length cu) (by rw [E1.out]; exact HU.out) HW.out HGr.out (HA.out.imp (fun e => e.symm) (fun e => ⟨gg, rfl, by omega⟩))
        exact this
      case measure => first | (simp [intOf]; done) | (simp [intOf]; omega)
    · obtain rfl : k = n1 := by omega
      clear hlt
      go_wp2_with fail
      go_loopw [8, 10] (fun tv iv wr => ∃ j : Nat, j ≤ n2 ∧ iv = .int .i64 (j : Int) ∧ Hid (∃ F V, TI w wr (WX k X1 X2) tv (1 + k + j) F V)) (fun _ iv _ => n2 - (intOf iv).toNat)
      case atStart => exact ⟨0, by omega, rfl, HR.out⟩
      case round =>
        clear HR
        obtain ⟨j, hj, rfl, HR⟩ := hrel
        obtain ⟨F, V, hT⟩ := HR.out
        have T := Lib.hid hT
        clear hT HR
        by_cases hlt : j < n2
        · obtain ⟨b, off, Ak, ck, rfl, hGb, hbl, ck0, hRL⟩ := (R2.out.later T.out.below).at_ j hlt
          have e1 : WX k X1 X2 (1 + k + j) = up (X2 j) (1 + k) := by rw [WX2 (by omega) (by omega)]; congr 2; omega
          have E1 := Lib.hid e1
          have SC : Hid (Calls Try.prog 18 #[.slice Ak (X2 j).length ck, .int .i64 (1 + (k : Int))] wr (ShiftedPost wr (up (X2 j) (1 + k)))) := by
            have := shifted_c wr _ Ak ck (X2 j) hRL (fun _ h => h) (1 + k) (by omega) (by have := (W2.out j hlt).2; omega) (fun i hi => by have := XR2.out j hlt i hi; omega)
            rw [show (((1 + k : Nat) : Int)) = 1 + (k : Int) by omega] at this
            unfold up
            rw [show (((1 + k : Nat) : Int)) = 1 + (k : Int) by omega]
            exact this
          obtain ⟨At, ct, rfl, hct⟩ := T.out.ll.row.shape
          clear hRL e1
          generalize (X2 j).length = L1 at *
          go_wp2_with (first
            | (go_at_call 18; refine SC.out.mono ?_; rintro e w2 ⟨u, rfl, hu, hb⟩; have HU := Lib.hid hu; have HB2 := Lib.hid hb; obtain ⟨Au, cu, rfl, hcu⟩ := hu.shape; clear hu hb; have DR := Lib.hid (T.out.below' HB2.out).ll.row.1)
            | (at_builtin; go_must (refine wpList_append_lies _ rfl (.tmp 64) (.tmp 73) 22 rfl 0 27 i1 _ 1 24 Try.underlying22 KI.out KZ0.out KZ1.out KZ2.out rfl (by omega) (.slice At (1 + k + j) ct) (1 + k + j) (heads (1 + k + j) V) rfl (DR.out.alloc _) ⟨w2.heap.size, 0, none⟩ 1 1 [.slice Au (up (X2 j) (1 + k)).length cu] rfl rfl (World.news_of_block (cs := #[.slice Au (up (X2 j) (1 + k)).length cu]) (t := 27) (fr := (0, 0)) (heap_alloc_new _ _)) (by simp [Value.oneCell']) (by omega) (by unfold maxLen; omega) (by omega) (Nat.zero_le _) (w2.heap.size + 1) (by simp) ?_); go_must (intro gg cap' w4 hown hgrow hat hlt4; have HW := Lib.hid hown; have HGr := Lib.hid hgrow; have HA := Lib.hid hat; clear hown hgrow hat)))
          go_roundw
          case rel =>
            refine ⟨j + 1, by omega, by go_num, ?_⟩
            have := T.out.push HB2.out (u := .slice Au (up (X2 j) (1 + k)).length cu) (by rw [E1.out]; exact HU.out) HW.out HGr.out (HA.out.imp (fun e => e.symm) (fun e => ⟨gg, rfl, by omega⟩))
            exact this
          case measure => first | (simp [intOf]; done) | (simp [intOf]; omega)
        · obtain rfl : j = n2 := by omega
          obtain ⟨At, ct, rfl, hct⟩ := T.out.ll.row.shape
          have hxl : ∀ q, q < 1 + k + j → (WX k X1 X2 q).length ≤ 1000000 := fun q hq => by
            by_cases h0 : q = 0
            · subst h0; rw [WX0]; simp
            · by_cases hy : q ≤ k
              · rw [WX1 h0 hy, up_len]; have := (W1.out (q - 1) (by omega)).2; omega
              · rw [WX2 h0 hy, up_len]; have := (W2.out (q - 1 - k) (by omega)).2; omega
          have LC := Lib.hid (line_c wr _ At (1 + k + j) ct (WX k X1 X2) (T.out.reads (by omega) XR.out hxl) (fun _ h => h) (by omega))
          have HB := Lib.hid T.out.below
          clear T hxl hlt
          go_wp2_with fail
          refine LC.out.mono ?_
          rintro e w2 ⟨v, rfl, hb, hcase⟩
          have HB2 := Lib.hid (HB.out.trans (hb.mono HB.out.size))
          have hs2 : wr.heap.size ≤ w2.heap.size := hb.size
          rcases hcase with ⟨hn, _⟩ | ⟨_, _, s, hreach, hop, hrow⟩
          · exact absurd ⟨XR.out, by omega⟩ hn
          have ROW := Lib.hid hrow
          have HRE := Lib.hid hreach
          have HOP := Lib.hid hop
          have RC := Lib.hid (reached_c w2 _ A1 k c1 X1 (R1.out.later HB2.out) (fun _ h => h) XR1.out 0 p1 (by omega))
          have hsz : Hid (s.done.length ≤ 1000000) := by
            have := (hreach.inv (n := 1 + k + j) (by omega) XR.out).size
            show s.done.length ≤ 1000000
            omega
          clear hrow hreach hop hb LC HB
          go_wp2_with fail
          refine RC.out.mono ?_
          rintro e w3 ⟨sb, f, rfl, hblk, hf, hb3, _⟩
          have HB3 := Lib.hid (HB2.out.trans (hb3.mono HB2.out.size))
          obtain ⟨hwl, hwi⟩ := ways_line XR1.out XR2.out p1 p2 HRE.out HOP.out hf
          have hro3 := ROW.out.below hb3
          have hrd : ∀ i, i < (ofNats s.done.reverse).length → i64in ((ofNats s.done.reverse).getD i 0) := fun i hi => by
            rw [ofNats_length] at hi
            rw [ofNats_get _ hi]
            have h1 : s.done.reverse.getD i 0 ∈ s.done.reverse := getD_mem hi
            have h2 := (HRE.out.inv (n := 1 + k + j) (by omega) XR.out).done _ (List.mem_reverse.1 h1)
            constructor <;> omega
          obtain ⟨Av, cv, rfl, hRLv⟩ := hro3.reads hrd (by rw [ofNats_length, List.length_reverse]; have := hsz.out; omega)
          have hle : (ofNats s.done.reverse).length = s.done.length := by rw [ofNats_length, List.length_reverse]
          obtain ⟨M, hM⟩ : ∃ M, M = s.done.length := ⟨_, rfl⟩
          have hle' : (ofNats s.done.reverse).length = M := by rw [hM]; exact hle
          rw [hle']
          rw [← hM] at hwl hwi
          have CV : Hid (∀ i, i < M → ∃ b off, Av = some ⟨b, off, none⟩ ∧ w3.cell? ⟨b, off + i, none⟩ = some (.int .i64 ((s.done.reverse.getD i 0 : Nat) : Int))) := fun i hi => by
            obtain ⟨_, b, off, h1, _, _, h2⟩ := hRLv.2 i (by rw [hle']; exact hi)
            rw [ofNats_get _ (by rw [List.length_reverse, ← hM]; exact hi)] at h2
            exact ⟨b, off, h1, h2⟩
          have CF := Lib.hid (fun i (hi : i < k) => (hblk.cell i).trans (bools_get k f hi))
          have HWI := Lib.hid hwi
          have hM2 : M ≤ 1000000 := by rw [hM]; exact hsz.out
          clear hro3 hrd hRLv hle hle' hblk hf hwi ROW RC HRE HOP hsz hM hb3
          go_wp2_with fail
          have hcn := cnt_le f k
          go_loop [12, 14] (fun nv iv => ∃ q : Nat, q ≤ k ∧ iv = .int .i64 (q : Int) ∧ nv = .int .i64 ((1 + cnt f q : Nat) : Int)) (fun _ iv => k - (intOf iv).toNat)
          case atStart => exact ⟨0, by omega, rfl, rfl⟩
          case round =>
            obtain ⟨q, hq, rfl, rfl⟩ := hrel
            by_cases hlt : q < k
            · have cf := CF.out q hlt
              have hcq := cnt_le f q
              cases hfq : f q with
              | true =>
                have h1 : cnt f (q + 1) = cnt f q + 1 := by simp [cnt, hfq]
                rw [hfq] at cf
                clear CF CV HWI hfq
                generalize cnt f q = z at *
                go_wp2_with fail
                go_round
                case rel => exact ⟨q + 1, by omega, by go_num, by rw [h1]; go_num⟩
                case measure => first | (simp [intOf]; done) | (simp [intOf]; omega)
              | false =>
                have h1 : cnt f (q + 1) = cnt f q := by simp [cnt, hfq]
                rw [hfq] at cf
                clear CF CV HWI hfq
                generalize cnt f q = z at *
                go_wp2_with fail
                go_round
                case rel => exact ⟨q + 1, by omega, by go_num, by rw [h1]⟩
                case measure => first | (simp [intOf]; done) | (simp [intOf]; omega)
            · obtain rfl : q = k := by omega
              clear CF
              generalize cnt f q = z at *
              go_wp2_with fail
              go_loop [15] (fun iv => ∃ t : Nat, t ≤ M ∧ iv = .int .i64 (t : Int)) (fun iv => M - (intOf iv).toNat)
              case atStart => exact ⟨0, by omega, rfl⟩
              case round =>
                obtain ⟨t, ht, rfl⟩ := hrel
                by_cases htl : t < M
                · obtain ⟨b, off, rfl, cx⟩ := CV.out t htl
                  have hw := HWI.out t htl
                  generalize s.done.reverse.getD t 0 = y at *
                  clear CV HWI
                  rcases (show (t < 1 + z ∧ y ≤ q) ∨ (1 + z ≤ t ∧ q < y) by
                    have := decide_eq_decide.1 hw
                    omega) with ⟨k1, k2⟩ | ⟨k1, k2⟩
                  · clear hw
                    have d1 : decide ((t : Int) < 1 + (z : Int)) = true := decide_eq_true (by omega)
                    have d2 : decide (y ≤ q) = true := decide_eq_true k2
                    have d3 : decide ((y : Int) ≤ (q : Int)) = true := decide_eq_true (by omega)
                    have d4 : decide (t < 1 + z) = true := decide_eq_true (by omega)
                    go_wp2_with fail
                    go_round
                    case rel => exact ⟨t + 1, by omega, by go_num⟩
                    case measure => first | (simp [intOf]; done) | (simp [intOf]; omega)
                  · clear hw
                    have d1 : decide ((t : Int) < 1 + (z : Int)) = false := decide_eq_false (by omega)
                    have d2 : decide (y ≤ q) = false := decide_eq_false (by omega)
                    have d3 : decide ((y : Int) ≤ (q : Int)) = false := decide_eq_false (by omega)
                    have d4 : decide (t < 1 + z) = false := decide_eq_false (by omega)
                    go_wp2_with fail
                    go_round
                    case rel => exact ⟨t + 1, by omega, by go_num⟩
                    case measure => first | (simp [intOf]; done) | (simp [intOf]; omega)
                · clear CV HWI
                  go_wp2_with fail
                  go_ret
                  exact ⟨congrArg (fun b => Ending.returned (Value.bool b)) (decide_eq_true (show (1 + (z : Int)) < (M : Int) by omega)), HB3.out⟩
end Go.Proofs.Ytdpeckfdilpidaa
