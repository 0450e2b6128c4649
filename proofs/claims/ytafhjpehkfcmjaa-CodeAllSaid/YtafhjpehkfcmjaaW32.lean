/- the document's reader: instruction: the walk. -/
import Derived.Test.YtafhjpehkfcmjaaW31
import Derived.Deep.Cut
set_option linter.unusedVariables false
set_option linter.unusedSimpArgs false
namespace Go.Proofs.Ytafhjpehkfcmjaa
open Go.RowKit
attribute [local go_sem ↓] Go.wp_at_zero Go.wp_at_succ
structure DT (w0 w : World) (G : Nat → Prop) (A : Option Addr) (L c : Nat) (Bf : Nat → UInt8) (r p : Nat) (bad : Bool) (cc fc : Array Value) (g1 : Nat) (ii : Array Value) : Prop where
  b : Blk w r 78 (lcells (.slice A L c) p bad)
  bl : BL w G A L Bf
  cb : Blk w w0.heap.size 25 cc
  fb : Blk w (w0.heap.size + 1) 53 fc
  rb : Blk w (w0.heap.size + 1 + 1) 41 #[.int .i64 0, .int .i64 0, .int .i64 0, .int .i64 0, .int .i64 0]
  ib : Blk w g1 41 ii
  o : Only (fun b => b = r) w0 w
  hr : r < w0.heap.size
  hg : w0.heap.size + 2 < g1
section
variable {w0 w w' : World} {G : Nat → Prop} {A : Option Addr} {L c : Nat} {Bf : Nat → UInt8} {r p p' : Nat} {bad bad' : Bool} {cc fc : Array Value} {g1 : Nat} {ii : Array Value}
theorem DT.turn (hG : ¬ G r) (h : DT w0 w G A L c Bf r p bad cc fc g1 ii) (o : Only (fun b => b = r) w w') (hb : Blk w' r 78 (lcells (.slice A L c) p' bad')) : DT w0 w' G A L c Bf r p' bad' cc fc g1 ii :=
  ⟨hb, h.bl.only o (fun b _ hb e => hG (e ▸ hb)), h.cb.only o (fun e => Blk.ne_ h.cb h.b (by decide) e), h.fb.only o (fun e => Blk.ne_ h.fb h.b (by decide) e), h.rb.only o (fun e => Blk.ne_ h.rb h.b (by decide) e), h.ib.only o (fun e => Blk.ne_ h.ib h.b (by decide) e), h.o.then_ o, h.hr, h.hg⟩
theorem DT.quiet (h : DT w0 w G A L c Bf r p bad cc fc g1 ii) (o : Only (fun _ => False) w w') : DT w0 w' G A L c Bf r p bad cc fc g1 ii :=
  ⟨h.b.only o (fun h => h), h.bl.only o (fun _ _ _ h => h), h.cb.only o (fun h => h), h.fb.only o (fun h => h), h.rb.only o (fun h => h), h.ib.only o (fun h => h), h.o.trans o (fun _ _ h => h.elim), h.hr, h.hg⟩
theorem DT.put (hG : ∀ b, G b → b < w0.heap.size) (h : DT w0 w G A L c Bf r p bad cc fc g1 ii) (j : Nat) (u : Value) : DT w0 (w.setCell ⟨g1, j, none⟩ u) G A L c Bf r p bad cc fc g1 (ii.setIfInBounds j u) := by
  have o : Only (fun b => b = g1) w (w.setCell ⟨g1, j, none⟩ u) := (Only.refl (fun b => b = g1) w).setCell (.inl rfl) u
  have hg := h.hg
  have hr := h.hr
  exact ⟨h.b.only o (fun e => by omega), h.bl.only o (fun b _ hb e => by have := hG b hb; omega), h.cb.only o (fun e => by omega), h.fb.only o (fun e => by omega), h.rb.only o (fun e => by omega), h.ib.set_ j u, h.o.setCell (.inr (by show w0.heap.size ≤ g1; omega)) u, hr, hg⟩
theorem DT.take (hG : ¬ G r) (h : DT w0 w G A L c Bf r p bad cc fc g1 ii) (hp : p ≤ L) (hL : L ≤ 300000000) (hc : L ≤ c) (hc2 : c ≤ 9223372036854775807) {n lo hi : Nat} (hn : 1 ≤ n) (hn2 : n ≤ 8) (hlo : lo < 18446744073709551616) (hhi : hi < 18446744073709551616) {ni li hi' : Int} (e1 : ni = (n : Int)) (e2 : li = (lo : Int)) (e3 : hi' = (hi : Int)) :
    Calls Try.prog 35 #[.pointer (some ⟨r, 0, none⟩), .int .i64 ni, .int .u64 li, .int .u64 hi'] w fun e w' => ∃ v p' bad', e = .returned (.int .i64 v) ∧ i64in v ∧ DT w0 w' G A L c Bf r p' bad' cc fc g1 ii ∧ p' ≤ L ∧ NumR Bf L n lo hi p bad p' bad' v ∧ Only (fun b => b = r) w w' := by
  subst e1 e2 e3
  refine (take_c w G A L c Bf r p bad n lo hi h.b h.bl hG hp hL hc hc2 hn hn2 hlo hhi).mono ?_
  rintro e w' ⟨v, p', bad', rfl, hv, hb, ho, hR⟩
  exact ⟨v, p', bad', rfl, hv, h.turn hG ho hb, hR.le hp, hR, ho⟩
end
def DInsPost (Bf : Nat → UInt8) (L : Nat) (r : Nat) (bv : Value) (p nf : Nat) (f : Fn) (last : Bool) (w : World) (e : Ending) (w' : World) : Prop :=
  ∃ x p' bad', e = .returned (.tuple #[insV x, .bool (!bad')]) ∧ Blk w' r 78 (lcells bv p' bad') ∧ Only (fun b => b = r) w w' ∧ p' ≤ L ∧ FinR Bf L nf f last p x p' bad'
theorem testl : ∀ (a b t : Bool), (a && !b) = t → (t = true → a = true ∧ b = false) ∧ (t = false → ¬ (a = true ∧ b = false)) := by decide
set_option maxRecDepth 100000 in
set_option maxHeartbeats 32000000 in
theorem dins_c (w : World) (G : Nat → Prop) (hG : ∀ b, G b → b < w.heap.size) (A : Option Addr) (L c : Nat) (Bf : Nat → UInt8) (r : Nat) (p : Nat) (IA : Option Addr) (ni icap : Nat) (FA : Option Addr) (nf cf : Nat) (m : Int) (f : Fn) (last : Bool) (hb : Blk w r 78 (lcells (.slice A L c) p false)) (hB : BL w G A L Bf) (hGr : ¬ G r) (hp : p ≤ L) (hL : L ≤ 300000000) (hc : L ≤ c) (hc2 : c ≤ 9223372036854775807) (hf : FnB f) (hnf : 1 ≤ nf) (hnf2 : nf ≤ 300000000) :
    Calls Try.prog 37 #[.pointer (some ⟨r, 0, none⟩), codeV IA ni icap FA nf cf m, fnV f, .bool last] w (DInsPost Bf L r (.slice A L c) p nf f last w) := by
  have HG := Lib.hid hG
  have HGr := Lib.hid hGr
  have HFB := Lib.hid hf
  have hrl := hb.lt
  have HNE : Hid (r ≠ w.heap.size + 1 + 1) := by show r ≠ _; omega
  have o0 : Only (fun _ => False) w (((w.alloc (.cells #[.slice IA ni icap, .slice FA nf cf, .int .i64 m] 25)).alloc (.cells #[.string f.name, .int .i64 f.frame, .int .i64 f.first, .int .i64 f.count, .int .i64 f.params] 53)).alloc (.cells #[.int .i64 0, .int .i64 0, .int .i64 0, .int .i64 0, .int .i64 0] 41)) := (((Only.refl _ w).alloc _).alloc _).alloc _
  have HX := Lib.hid (show Blk (((w.alloc (.cells #[.slice IA ni icap, .slice FA nf cf, .int .i64 m] 25)).alloc (.cells #[.string f.name, .int .i64 f.frame, .int .i64 f.first, .int .i64 f.count, .int .i64 f.params] 53)).alloc (.cells #[.int .i64 0, .int .i64 0, .int .i64 0, .int .i64 0, .int .i64 0] 41)) r 78 (lcells (.slice A L c) p false) ∧ BL (((w.alloc (.cells #[.slice IA ni icap, .slice FA nf cf, .int .i64 m] 25)).alloc (.cells #[.string f.name, .int .i64 f.frame, .int .i64 f.first, .int .i64 f.count, .int .i64 f.params] 53)).alloc (.cells #[.int .i64 0, .int .i64 0, .int .i64 0, .int .i64 0, .int .i64 0] 41)) G A L Bf ∧ Blk (((w.alloc (.cells #[.slice IA ni icap, .slice FA nf cf, .int .i64 m] 25)).alloc (.cells #[.string f.name, .int .i64 f.frame, .int .i64 f.first, .int .i64 f.count, .int .i64 f.params] 53)).alloc (.cells #[.int .i64 0, .int .i64 0, .int .i64 0, .int .i64 0, .int .i64 0] 41)) w.heap.size 25 #[.slice IA ni icap, .slice FA nf cf, .int .i64 m] ∧ Blk (((w.alloc (.cells #[.slice IA ni icap, .slice FA nf cf, .int .i64 m] 25)).alloc (.cells #[.string f.name, .int .i64 f.frame, .int .i64 f.first, .int .i64 f.count, .int .i64 f.params] 53)).alloc (.cells #[.int .i64 0, .int .i64 0, .int .i64 0, .int .i64 0, .int .i64 0] 41)) (w.heap.size + 1) 53 #[.string f.name, .int .i64 f.frame, .int .i64 f.first, .int .i64 f.count, .int .i64 f.params] ∧ Blk (((w.alloc (.cells #[.slice IA ni icap, .slice FA nf cf, .int .i64 m] 25)).alloc (.cells #[.string f.name, .int .i64 f.frame, .int .i64 f.first, .int .i64 f.count, .int .i64 f.params] 53)).alloc (.cells #[.int .i64 0, .int .i64 0, .int .i64 0, .int .i64 0, .int .i64 0] 41)) (w.heap.size + 1 + 1) 41 #[.int .i64 0, .int .i64 0, .int .i64 0, .int .i64 0, .int .i64 0] from by
    have z : (w.alloc (.cells #[.slice IA ni icap, .slice FA nf cf, .int .i64 m] 25)).heap.size = w.heap.size + 1 := by simp
    have z2 : ((w.alloc (.cells #[.slice IA ni icap, .slice FA nf cf, .int .i64 m] 25)).alloc (.cells #[.string f.name, .int .i64 f.frame, .int .i64 f.first, .int .i64 f.count, .int .i64 f.params] 53)).heap.size = w.heap.size + 1 + 1 := by simp
    have b2 := Blk.new (w.alloc (.cells #[.slice IA ni icap, .slice FA nf cf, .int .i64 m] 25)) 53 #[.string f.name, .int .i64 f.frame, .int .i64 f.first, .int .i64 f.count, .int .i64 f.params]
    have b3 := Blk.new ((w.alloc (.cells #[.slice IA ni icap, .slice FA nf cf, .int .i64 m] 25)).alloc (.cells #[.string f.name, .int .i64 f.frame, .int .i64 f.first, .int .i64 f.count, .int .i64 f.params] 53)) 41 #[.int .i64 0, .int .i64 0, .int .i64 0, .int .i64 0, .int .i64 0]
    rw [z] at b2
    rw [z2] at b3
    exact ⟨hb.only o0 (fun h => h), hB.only o0 (fun _ _ _ h => h), ((Blk.new w 25 _).alloc _).alloc _, b2.alloc _, b3⟩)
  have O0 := Lib.hid o0
  have c1 : (((w.alloc (.cells #[.slice IA ni icap, .slice FA nf cf, .int .i64 m] 25)).alloc (.cells #[.string f.name, .int .i64 f.frame, .int .i64 f.first, .int .i64 f.count, .int .i64 f.params] 53)).alloc (.cells #[.int .i64 0, .int .i64 0, .int .i64 0, .int .i64 0, .int .i64 0] 41)).cell? ⟨r, 1, none⟩ = some (.int .i64 (p : Int)) := HX.out.1.cell 1
  have N1 : Hid (Calls Try.prog 35 #[.pointer (some ⟨r, 0, none⟩), .int .i64 1, .int .u64 1, .int .u64 38] (((w.alloc (.cells #[.slice IA ni icap, .slice FA nf cf, .int .i64 m] 25)).alloc (.cells #[.string f.name, .int .i64 f.frame, .int .i64 f.first, .int .i64 f.count, .int .i64 f.params] 53)).alloc (.cells #[.int .i64 0, .int .i64 0, .int .i64 0, .int .i64 0, .int .i64 0] 41)) (TakePost Bf L 1 1 38 r (.slice A L c) p false (((w.alloc (.cells #[.slice IA ni icap, .slice FA nf cf, .int .i64 m] 25)).alloc (.cells #[.string f.name, .int .i64 f.frame, .int .i64 f.first, .int .i64 f.count, .int .i64 f.params] 53)).alloc (.cells #[.int .i64 0, .int .i64 0, .int .i64 0, .int .i64 0, .int .i64 0] 41)))) := (take_c (((w.alloc (.cells #[.slice IA ni icap, .slice FA nf cf, .int .i64 m] 25)).alloc (.cells #[.string f.name, .int .i64 f.frame, .int .i64 f.first, .int .i64 f.count, .int .i64 f.params] 53)).alloc (.cells #[.int .i64 0, .int .i64 0, .int .i64 0, .int .i64 0, .int .i64 0] 41)) G A L c Bf r p false 1 1 38 HX.out.1 HX.out.2.1 hGr hp hL hc hc2 (by omega) (by omega) (by omega) (by omega))
  clear hG hGr hf o0 hB hb
  unfold fnV codeV
  go_enter Try.func37, Try.ntmps37
  go_upto_if 26 with (first | (go_at_call 35; refine N1.out.mono ?_; rintro e w1 ⟨v1, p1, bad1, rfl, hv1, hb1, ho1, hR1⟩; have B1 := Lib.hid hb1; have R1 := Lib.hid hR1; have O1 := Lib.hid ho1; have k2 : w1.cell? ⟨r, 2, none⟩ = some (.bool bad1) := hb1.cell 2; have kl := hb1.lt; clear hb1 hR1 ho1))
  have hp1 : p1 ≤ L := R1.out.le hp
  have hgs : w.heap.size + 2 < w1.heap.size := by have := O1.out.size; simp at this; omega
  have S2 : Hid (DT w (w1.alloc (.cells #[.int .i64 v1, .int .i64 0, .int .i64 0, .int .i64 0, .int .i64 0] 41)) G A L c Bf r p1 bad1 #[.slice IA ni icap, .slice FA nf cf, .int .i64 m] #[.string f.name, .int .i64 f.frame, .int .i64 f.first, .int .i64 f.count, .int .i64 f.params] w1.heap.size #[.int .i64 v1, .int .i64 0, .int .i64 0, .int .i64 0, .int .i64 0]) := by
    have h := HX.out
    exact ⟨B1.out.alloc _, (h.2.1.only O1.out (fun b _ hb e => HGr.out (e ▸ hb))).only (F := fun _ => False) ((Only.refl _ _).alloc _) (fun _ _ _ h => h), (h.2.2.1.only O1.out (fun e => by omega)).alloc _, (h.2.2.2.1.only O1.out (fun e => by omega)).alloc _, (h.2.2.2.2.only O1.out (fun e => by omega)).alloc _, Blk.new w1 41 _, ((O0.out.mono (G := fun b => b = r) (fun _ _ h => h.elim)).then_ O1.out).alloc _, hrl, hgs⟩
  clear HX N1 O1 O0 B1 k2 kl c1
  generalize w1.heap.size = g1 at *
  generalize w1.alloc (.cells #[.int .i64 v1, .int .i64 0, .int .i64 0, .int .i64 0, .int .i64 0] 41) = wa at *
  have FAIL : Hid (∀ (W : World) (x : Ins) (q : Nat), Only (fun b => b = r) w W → Blk W r 78 (lcells (.slice A L c) q true) → q ≤ L → FinR Bf L nf f last p x q true → DInsPost Bf L r (.slice A L c) p nf f last w (.returned (.tuple #[insV x, .bool false])) W) := fun W x q ho hb hq hF => ⟨x, q, true, rfl, hb, ho, hq, hF⟩
  have t0 : wa.cell? ⟨g1, 0, none⟩ = some (.int .i64 v1) := S2.out.ib.cell 0
  have t1 : wa.cell? ⟨g1, 1, none⟩ = some (.int .i64 0) := S2.out.ib.cell 1
  have t2 : wa.cell? ⟨g1, 2, none⟩ = some (.int .i64 0) := S2.out.ib.cell 2
  have t3 : wa.cell? ⟨g1, 3, none⟩ = some (.int .i64 0) := S2.out.ib.cell 3
  have t4 : wa.cell? ⟨g1, 4, none⟩ = some (.int .i64 0) := S2.out.ib.cell 4
  have tl := S2.out.ib.lt
  have rz : ∀ j, wa.frozen? ⟨w.heap.size + 1 + 1, j, none⟩ = false := S2.out.rb.frozen
  have r0 : wa.cell? ⟨w.heap.size + 1 + 1, 0, none⟩ = some (.int .i64 0) := S2.out.rb.cell 0
  have r1 : wa.cell? ⟨w.heap.size + 1 + 1, 1, none⟩ = some (.int .i64 0) := S2.out.rb.cell 1
  have r2 : wa.cell? ⟨w.heap.size + 1 + 1, 2, none⟩ = some (.int .i64 0) := S2.out.rb.cell 2
  have r3 : wa.cell? ⟨w.heap.size + 1 + 1, 3, none⟩ = some (.int .i64 0) := S2.out.rb.cell 3
  have r4 : wa.cell? ⟨w.heap.size + 1 + 1, 4, none⟩ = some (.int .i64 0) := S2.out.rb.cell 4
  have rl := S2.out.rb.lt
  have OPR := Lib.hid (opR_of (nf := nf) (f := f) (last := last) R1.out)
  have BRES : Hid (∀ (W : World), Blk W (w.heap.size + 1 + 1) 41 #[.int .i64 0, .int .i64 0, .int .i64 0, .int .i64 0, .int .i64 0] → ∀ (a0 a1 a2 a3 a4 : Value), Blk (((((W.setCell ⟨w.heap.size + 1 + 1, 0, none⟩ a0).setCell ⟨w.heap.size + 1 + 1, 1, none⟩ a1).setCell ⟨w.heap.size + 1 + 1, 2, none⟩ a2).setCell ⟨w.heap.size + 1 + 1, 3, none⟩ a3).setCell ⟨w.heap.size + 1 + 1, 4, none⟩ a4) (w.heap.size + 1 + 1) 41 #[a0, a1, a2, a3, a4]) := fun W h a0 a1 a2 a3 a4 => ((((h.set_ 0 a0).set_ 1 a1).set_ 2 a2).set_ 3 a3).set_ 4 a4
  have ORES : Hid (∀ (W : World) (a0 a1 a2 a3 a4 : Value), Only (fun b => b = w.heap.size + 1 + 1) W (((((W.setCell ⟨w.heap.size + 1 + 1, 0, none⟩ a0).setCell ⟨w.heap.size + 1 + 1, 1, none⟩ a1).setCell ⟨w.heap.size + 1 + 1, 2, none⟩ a2).setCell ⟨w.heap.size + 1 + 1, 3, none⟩ a3).setCell ⟨w.heap.size + 1 + 1, 4, none⟩ a4)) := fun W a0 a1 a2 a3 a4 => (((((Only.refl (fun b => b = w.heap.size + 1 + 1) W).setCell (.inl rfl) a0).setCell (.inl rfl) a1).setCell (.inl rfl) a2).setCell (.inl rfl) a3).setCell (.inl rfl) a4
  have HEND : Hid (∀ (W W2 : World), Only (fun b => b = r) w W → Only (fun b => b = w.heap.size + 1 + 1) W W2 → Only (fun b => b = r) w W2) := fun W W2 h1 h2 => ⟨h2.os.trans h1.os, h2.tape.trans h1.tape, h2.output.trans h1.output, Nat.le_trans h1.size h2.size, fun b hb hf => (h2.block b (Nat.lt_of_lt_of_le hb h1.size) (by omega)).trans (h1.block b hb hf)⟩
  cases bad1 with
  | true =>
    have HF : Hid (FinR Bf L nf f last p ⟨v1, 0, 0, 0, 0⟩ p1 true) := by
      refine ⟨⟨hv1, i64in_zero, i64in_zero, i64in_zero, i64in_zero⟩, .inl ⟨rfl, ?_⟩⟩
      rcases OPR.out.1 (.inl rfl) with h | ⟨h, _⟩
      · exact h.2
      · cases h
    have E := Lib.hid (FAIL.out _ ⟨v1, 0, 0, 0, 0⟩ p1 (HEND.out _ _ S2.out.o (ORES.out wa (.int .i64 v1) (.int .i64 0) (.int .i64 0) (.int .i64 0) (.int .i64 0))) (S2.out.b.only (ORES.out wa _ _ _ _ _) (fun e => HNE.out e)) hp1 HF.out)
    have BB := Lib.hid (BRES.out wa S2.out.rb (.int .i64 v1) (.int .i64 0) (.int .i64 0) (.int .i64 0) (.int .i64 0))
    clear FAIL OPR R1 S2 HF BRES ORES HEND
    go_wp2_with fail
    refine bodyPost_ret (results_cell2 rfl (a := ⟨w.heap.size + 1 + 1, 0, none⟩) rfl rfl (run_loadVar_row _ (w.heap.size + 1 + 1) 41 41 #[.int .i64 v1, .int .i64 0, .int .i64 0, .int .i64 0, .int .i64 0] (0, 0) _ BB.out Try.underlying41 rfl (by kernel_rfl))) rfl ?_
    exact E.out
  | false =>
    obtain ⟨le, HLE⟩ : ∃ le, Hid (lastOk v1 = le) := ⟨_, rfl⟩
    rw [HLE.out] at OPR
    go_upto_region 5 with fail
    go_cut [43] from 28 (fun x43 wx => x43 = .bool (last && !le) ∧ wx = wa)
    case first =>
      cases last with
      | false =>
        go_wp2_with fail
        go_meet
        case rel => exact ⟨by first | rfl | trivial | simp, by first | rfl | trivial⟩
      | true =>
        cases hq21 : (v1 == 21) with
        | true =>
          have hn21 : (v1 != 21) = false := by unfold bne; rw [hq21]; rfl
          go_wp2_with fail
          go_meet
          case rel => exact ⟨by first | rfl | trivial | (rw [← HLE.out]; simp [lastOk, *]), by first | rfl | trivial⟩
        | false =>
          have hn21 : (v1 != 21) = true := by unfold bne; rw [hq21]; rfl
          cases hq27 : (v1 == 27) with
          | true =>
            have hn27 : (v1 != 27) = false := by unfold bne; rw [hq27]; rfl
            go_wp2_with fail
            go_meet
            case rel => exact ⟨by first | rfl | trivial | (rw [← HLE.out]; simp [lastOk, *]), by first | rfl | trivial⟩
          | false =>
            have hn27 : (v1 != 27) = true := by unfold bne; rw [hq27]; rfl
            cases hq35 : (v1 == 35) with
            | true =>
              have hn35 : (v1 != 35) = false := by unfold bne; rw [hq35]; rfl
              go_wp2_with fail
              go_meet
              case rel => exact ⟨by first | rfl | trivial | (rw [← HLE.out]; simp [lastOk, *]), by first | rfl | trivial⟩
            | false =>
              have hn35 : (v1 != 35) = true := by unfold bne; rw [hq35]; rfl
              go_wp2_with fail
              go_meet
              case rel => exact ⟨by first | rfl | trivial | (rw [← HLE.out]; simp [lastOk, *]), by first | rfl | trivial⟩
    case rest =>
      obtain ⟨hx, hw⟩ := hcut
      subst hw hx
      obtain ⟨t, HT⟩ : ∃ t, Hid ((last && !le) = t) := ⟨_, rfl⟩
      rw [HT.out]
      have y1 : wc.cell? ⟨r, 1, none⟩ = some (.int .i64 (p1 : Int)) := S2.out.b.cell 1
      have y2 : wc.cell? ⟨r, 2, none⟩ = some (.bool false) := S2.out.b.cell 2
      have yz : ∀ j, wc.frozen? ⟨r, j, none⟩ = false := S2.out.b.frozen
      have yl := S2.out.b.lt
      cases t with
      | true =>
        obtain ⟨hl, hk⟩ := (testl _ _ _ HT.out).1 rfl
        obtain ⟨_, hO⟩ := OPR.out.2 rfl hl hk
        have S3 : Hid (DT w ((wc.setCell ⟨r, 1, none⟩ (.int .i64 (p : Int))).setCell ⟨r, 2, none⟩ (.bool true)) G A L c Bf r p true #[.slice IA ni icap, .slice FA nf cf, .int .i64 m] #[.string f.name, .int .i64 f.frame, .int .i64 f.first, .int .i64 f.count, .int .i64 f.params] g1 #[.int .i64 v1, .int .i64 0, .int .i64 0, .int .i64 0, .int .i64 0]) := S2.out.turn HGr.out (((Only.refl (fun b => b = r) wc).setCell (.inl rfl) _).setCell (.inl rfl) _) ((S2.out.b.set_ 1 _).set_ 2 _)
        have HF : Hid (FinR Bf L nf f last p ⟨v1, 0, 0, 0, 0⟩ p true) := by
          refine ⟨⟨hv1, i64in_zero, i64in_zero, i64in_zero, i64in_zero⟩, .inl ⟨rfl, ?_⟩⟩
          rcases hO with h | ⟨h, _⟩
          · exact h.2
          · cases h
        have E := Lib.hid (FAIL.out _ ⟨v1, 0, 0, 0, 0⟩ p (HEND.out _ _ S3.out.o (ORES.out _ (.int .i64 v1) (.int .i64 0) (.int .i64 0) (.int .i64 0) (.int .i64 0))) (S3.out.b.only (ORES.out _ _ _ _ _ _) (fun e => HNE.out e)) hp HF.out)
        have BB := Lib.hid (BRES.out _ S3.out.rb (.int .i64 v1) (.int .i64 0) (.int .i64 0) (.int .i64 0) (.int .i64 0))
        have hne1 : w.heap.size + 1 + 1 ≠ r := fun e => HNE.out e.symm
        have hne2 : g1 ≠ r := by omega
        clear FAIL OPR R1 S2 S3 HF BRES ORES HEND hO hl hk HT HLE
        go_wp2_with fail
        refine bodyPost_ret (results_cell2 rfl (a := ⟨w.heap.size + 1 + 1, 0, none⟩) rfl rfl (run_loadVar_row _ (w.heap.size + 1 + 1) 41 41 #[.int .i64 v1, .int .i64 0, .int .i64 0, .int .i64 0, .int .i64 0] (0, 0) _ BB.out Try.underlying41 rfl (by kernel_rfl))) rfl ?_
        exact E.out
      | false =>
        have hO := OPR.out.1 (.inr ((testl _ _ _ HT.out).2 rfl))
        have RR0 := Lib.hid (regR_zero hO)
        have hok : Hid ((usesOf v1).2 = true) := by
          rcases hO with ⟨h, _⟩ | ⟨_, _, u, rfl, h1, h2, _⟩
          · cases h
          · exact (op_cases h1 h2).1
        have FCL := Lib.hid (fun w' => fields_c v1 hv1 w')
        rw [dflags_fl hok.out] at FCL
        obtain ⟨rg, HRG⟩ : ∃ rg, Hid (regsOf v1 = rg) := ⟨_, rfl⟩
        obtain ⟨wd, HWD⟩ : ∃ wd, Hid (wideOf v1 = wd) := ⟨_, rfl⟩
        rw [HRG.out, HWD.out] at FCL
        rw [show uV (fl rg wd) = #[.bool (decide (0 < rg)), .bool (decide (1 < rg)), .bool (decide (2 < rg)), .bool wd] from rfl] at FCL
        obtain ⟨q0, Q0⟩ : ∃ q, Hid (decide (0 < rg) = q) := ⟨_, rfl⟩
        obtain ⟨q1, Q1⟩ : ∃ q, Hid (decide (1 < rg) = q) := ⟨_, rfl⟩
        obtain ⟨q2, Q2⟩ : ∃ q, Hid (decide (2 < rg) = q) := ⟨_, rfl⟩
        rw [Q0.out, Q1.out, Q2.out] at FCL
        clear hO OPR HT HLE R1 FAIL hok
        go_upto_if 59 with (first
          | (go_at_call 34; refine (FCL.out _).mono ?_; rintro e w2 ⟨rfl, hb2⟩; have S3 := Lib.hid (S2.out.quiet (Only.ofBelow hb2)); clear hb2))
        have S4 := Lib.hid (S3.out.quiet ((Only.refl (fun _ => False) w2).alloc (.cells #[.bool q0, .bool q1, .bool q2, .bool wd] 72)))
        have BU4 : Hid (Blk (w2.alloc (.cells #[.bool q0, .bool q1, .bool q2, .bool wd] 72)) w2.heap.size 72 #[.bool q0, .bool q1, .bool q2, .bool wd]) := Blk.new w2 72 #[.bool q0, .bool q1, .bool q2, .bool wd]
        clear S2 S3 FCL y1 y2 yz yl t0 t1 t2 t3 t4 tl rz r0 r1 r2 r3 r4 rl
        generalize w2.heap.size = gf at *
        generalize w2.alloc (.cells #[.bool q0, .bool q1, .bool q2, .bool wd] 72) = wb at *
        have S5 : Hid (DT w wb G A L c Bf r p1 false #[.slice IA ni icap, .slice FA nf cf, .int .i64 m] #[.string f.name, .int .i64 f.frame, .int .i64 f.first, .int .i64 f.count, .int .i64 f.params] g1 #[.int .i64 v1, .int .i64 (((fun _ => 0) : Nat → Int) 0), .int .i64 (((fun _ => 0) : Nat → Int) 1), .int .i64 (((fun _ => 0) : Nat → Int) 2), .int .i64 0]) := S4.out
        have BU5 := BU4
        clear S4 BU4
        obtain ⟨x0, hx0⟩ : ∃ x0 : Nat → Int, x0 = fun _ => 0 := ⟨_, rfl⟩
        rw [← hx0] at S5 RR0
        clear hx0
        go_cut [] from 60 (fun wx => ∃ (x : Nat → Int) (pj : Nat) (badj : Bool), Hid (DT w wx G A L c Bf r pj badj #[.slice IA ni icap, .slice FA nf cf, .int .i64 m] #[.string f.name, .int .i64 f.frame, .int .i64 f.first, .int .i64 f.count, .int .i64 f.params] g1 #[.int .i64 v1, .int .i64 (x 0), .int .i64 (x 1), .int .i64 (x 2), .int .i64 0]) ∧ pj ≤ L ∧ Hid (Blk wx gf 72 #[.bool q0, .bool q1, .bool q2, .bool wd]) ∧ Hid (RegR Bf L nf f last p 1 x pj badj v1))
        case first =>
          cases q0 with
          | true =>
            have hjr := of_decide_eq_true Q0.out
            have NJ := Lib.hid (S5.out.take HGr.out hp1 hL hc hc2 (n := 1) (lo := 0) (hi := 15) (by omega) (by omega) (by omega) (by omega) (ni := 1) (li := 0) (hi' := 15) rfl rfl rfl)
            have RS : Hid (∀ v p2 bad2, i64in v → NumR Bf L 1 0 15 p1 false p2 bad2 v → RegR Bf L nf f last p 1 (updI x0 0 v) p2 bad2 v1) := fun v p2 bad2 hv hN => regR_step RR0.out (by omega) (by rw [HRG.out]; exact hjr) hv hN
            have HB0 : Hid (∀ w5 (o : Only (fun b => b = r) wb w5), Blk w5 gf 72 #[.bool true, .bool q1, .bool q2, .bool wd]) := fun w5 o => BU5.out.only o (fun e => Blk.ne_ BU5.out S5.out.b (by decide) e)
            have IP := Lib.hid (fun y => insx_put v1 x0 0 (by omega) y)
            have IA2 := Lib.hid (insx_at v1 x0 0 (by omega))
            clear RR0 S5 BU5
            go_wp2_with (first | (go_at_call 35; refine NJ.out.mono ?_; rintro e w5 ⟨v5, p5, bad5, rfl, hv5, hS5, hp5, hR5, ho5⟩; have S7 := Lib.hid hS5; have RJ5 := Lib.hid (RS.out _ _ _ hv5 hR5); have BP5 := Lib.hid (HB0.out _ ho5); have y5 : w5.cell? ⟨g1, 1, none⟩ = some (.int .i64 (x0 0)) := (S7.out.ib.cell (1 + 0)).trans IA2.out; have z5 : ∀ i, w5.frozen? ⟨g1, i, none⟩ = false := S7.out.ib.frozen; have l5 := S7.out.ib.lt; clear hS5 hR5 ho5))
            have S8 : Hid (DT w (w5.setCell ⟨g1, 1, none⟩ (.int .i64 v5)) G A L c Bf r p5 bad5 #[.slice IA ni icap, .slice FA nf cf, .int .i64 m] #[.string f.name, .int .i64 f.frame, .int .i64 f.first, .int .i64 f.count, .int .i64 f.params] g1 #[.int .i64 v1, .int .i64 (updI x0 0 v5 0), .int .i64 (updI x0 0 v5 1), .int .i64 (updI x0 0 v5 2), .int .i64 0]) := by
              have := S7.out.put HG.out (1 + 0) (.int .i64 v5)
              rw [IP.out] at this
              exact this
            have BP8 : Hid (Blk (w5.setCell ⟨g1, 1, none⟩ (.int .i64 v5)) gf 72 #[.bool true, .bool q1, .bool q2, .bool wd]) := BP5.out.far (fun e => Blk.ne_ BP5.out S7.out.ib (by decide) e) _
            clear S7 y5 z5 l5 BP5 NJ RS HB0 IP IA2
            go_meet
            case rel => exact ⟨updI x0 0 v5, p5, bad5, S8, hp5, BP8, RJ5⟩
          | false =>
            have hjr := of_decide_eq_false Q0.out
            have RJ5 := Lib.hid (regR_skip RR0.out (by omega) (by rw [HRG.out]; exact hjr))
            clear RR0
            go_wp2_with fail
            go_meet
            case rel => exact ⟨x0, p1, false, S5, hp1, BU5, RJ5⟩
        case rest =>
        obtain ⟨x1, pj1, badj1, SJ1, hpj1, BJ1, RJ1⟩ := hcut
        clear S5 BU5 RR0
        have u0c0 : wc.cell? ⟨gf, 1, none⟩ = some (.bool q1) := BJ1.out.cell 1
        have u0cl := BJ1.out.lt
        go_upto_if 64 with fail
        go_cut [] from 65 (fun wx => ∃ (x : Nat → Int) (pj : Nat) (badj : Bool), Hid (DT w wx G A L c Bf r pj badj #[.slice IA ni icap, .slice FA nf cf, .int .i64 m] #[.string f.name, .int .i64 f.frame, .int .i64 f.first, .int .i64 f.count, .int .i64 f.params] g1 #[.int .i64 v1, .int .i64 (x 0), .int .i64 (x 1), .int .i64 (x 2), .int .i64 0]) ∧ pj ≤ L ∧ Hid (Blk wx gf 72 #[.bool q0, .bool q1, .bool q2, .bool wd]) ∧ Hid (RegR Bf L nf f last p 2 x pj badj v1))
        case first =>
          cases q1 with
          | true =>
            have hjr := of_decide_eq_true Q1.out
            have NJ := Lib.hid (SJ1.out.take HGr.out hpj1 hL hc hc2 (n := 1) (lo := 0) (hi := 15) (by omega) (by omega) (by omega) (by omega) (ni := 1) (li := 0) (hi' := 15) rfl rfl rfl)
            have RS : Hid (∀ v p2 bad2, i64in v → NumR Bf L 1 0 15 pj1 badj1 p2 bad2 v → RegR Bf L nf f last p 2 (updI x1 1 v) p2 bad2 v1) := fun v p2 bad2 hv hN => regR_step RJ1.out (by omega) (by rw [HRG.out]; exact hjr) hv hN
            have HB0 : Hid (∀ w5 (o : Only (fun b => b = r) wc w5), Blk w5 gf 72 #[.bool q0, .bool true, .bool q2, .bool wd]) := fun w5 o => BJ1.out.only o (fun e => Blk.ne_ BJ1.out SJ1.out.b (by decide) e)
            have IP := Lib.hid (fun y => insx_put v1 x1 1 (by omega) y)
            have IA2 := Lib.hid (insx_at v1 x1 1 (by omega))
            clear RJ1 SJ1 BJ1
            go_wp2_with (first | (go_at_call 35; refine NJ.out.mono ?_; rintro e w5 ⟨v5, p5, bad5, rfl, hv5, hS5, hp5, hR5, ho5⟩; have S7 := Lib.hid hS5; have RJ5 := Lib.hid (RS.out _ _ _ hv5 hR5); have BP5 := Lib.hid (HB0.out _ ho5); have y5 : w5.cell? ⟨g1, 2, none⟩ = some (.int .i64 (x1 1)) := (S7.out.ib.cell (1 + 1)).trans IA2.out; have z5 : ∀ i, w5.frozen? ⟨g1, i, none⟩ = false := S7.out.ib.frozen; have l5 := S7.out.ib.lt; clear hS5 hR5 ho5))
            have S8 : Hid (DT w (w5.setCell ⟨g1, 2, none⟩ (.int .i64 v5)) G A L c Bf r p5 bad5 #[.slice IA ni icap, .slice FA nf cf, .int .i64 m] #[.string f.name, .int .i64 f.frame, .int .i64 f.first, .int .i64 f.count, .int .i64 f.params] g1 #[.int .i64 v1, .int .i64 (updI x1 1 v5 0), .int .i64 (updI x1 1 v5 1), .int .i64 (updI x1 1 v5 2), .int .i64 0]) := by
              have := S7.out.put HG.out (1 + 1) (.int .i64 v5)
              rw [IP.out] at this
              exact this
            have BP8 : Hid (Blk (w5.setCell ⟨g1, 2, none⟩ (.int .i64 v5)) gf 72 #[.bool q0, .bool true, .bool q2, .bool wd]) := BP5.out.far (fun e => Blk.ne_ BP5.out S7.out.ib (by decide) e) _
            clear S7 y5 z5 l5 BP5 NJ RS HB0 IP IA2
            go_meet
            case rel => exact ⟨updI x1 1 v5, p5, bad5, S8, hp5, BP8, RJ5⟩
          | false =>
            have hjr := of_decide_eq_false Q1.out
            have RJ5 := Lib.hid (regR_skip RJ1.out (by omega) (by rw [HRG.out]; exact hjr))
            clear RJ1
            go_wp2_with fail
            go_meet
            case rel => exact ⟨x1, pj1, badj1, SJ1, hpj1, BJ1, RJ5⟩
        case rest =>
        obtain ⟨x2, pj2, badj2, SJ2, hpj2, BJ2, RJ2⟩ := hcut
        clear SJ1 BJ1 RJ1
        have u1c0 : wc.cell? ⟨gf, 2, none⟩ = some (.bool q2) := BJ2.out.cell 2
        have u1cl := BJ2.out.lt
        go_upto_if 69 with fail
        go_cut [] from 70 (fun wx => ∃ (x : Nat → Int) (pj : Nat) (badj : Bool), Hid (DT w wx G A L c Bf r pj badj #[.slice IA ni icap, .slice FA nf cf, .int .i64 m] #[.string f.name, .int .i64 f.frame, .int .i64 f.first, .int .i64 f.count, .int .i64 f.params] g1 #[.int .i64 v1, .int .i64 (x 0), .int .i64 (x 1), .int .i64 (x 2), .int .i64 0]) ∧ pj ≤ L ∧ Hid (Blk wx gf 72 #[.bool q0, .bool q1, .bool q2, .bool wd]) ∧ Hid (RegR Bf L nf f last p 3 x pj badj v1))
        case first =>
          cases q2 with
          | true =>
            have hjr := of_decide_eq_true Q2.out
            have NJ := Lib.hid (SJ2.out.take HGr.out hpj2 hL hc hc2 (n := 1) (lo := 0) (hi := 15) (by omega) (by omega) (by omega) (by omega) (ni := 1) (li := 0) (hi' := 15) rfl rfl rfl)
            have RS : Hid (∀ v p2 bad2, i64in v → NumR Bf L 1 0 15 pj2 badj2 p2 bad2 v → RegR Bf L nf f last p 3 (updI x2 2 v) p2 bad2 v1) := fun v p2 bad2 hv hN => regR_step RJ2.out (by omega) (by rw [HRG.out]; exact hjr) hv hN
            have HB0 : Hid (∀ w5 (o : Only (fun b => b = r) wc w5), Blk w5 gf 72 #[.bool q0, .bool q1, .bool true, .bool wd]) := fun w5 o => BJ2.out.only o (fun e => Blk.ne_ BJ2.out SJ2.out.b (by decide) e)
            have IP := Lib.hid (fun y => insx_put v1 x2 2 (by omega) y)
            have IA2 := Lib.hid (insx_at v1 x2 2 (by omega))
            clear RJ2 SJ2 BJ2
            go_wp2_with (first | (go_at_call 35; refine NJ.out.mono ?_; rintro e w5 ⟨v5, p5, bad5, rfl, hv5, hS5, hp5, hR5, ho5⟩; have S7 := Lib.hid hS5; have RJ5 := Lib.hid (RS.out _ _ _ hv5 hR5); have BP5 := Lib.hid (HB0.out _ ho5); have y5 : w5.cell? ⟨g1, 3, none⟩ = some (.int .i64 (x2 2)) := (S7.out.ib.cell (1 + 2)).trans IA2.out; have z5 : ∀ i, w5.frozen? ⟨g1, i, none⟩ = false := S7.out.ib.frozen; have l5 := S7.out.ib.lt; clear hS5 hR5 ho5))
            have S8 : Hid (DT w (w5.setCell ⟨g1, 3, none⟩ (.int .i64 v5)) G A L c Bf r p5 bad5 #[.slice IA ni icap, .slice FA nf cf, .int .i64 m] #[.string f.name, .int .i64 f.frame, .int .i64 f.first, .int .i64 f.count, .int .i64 f.params] g1 #[.int .i64 v1, .int .i64 (updI x2 2 v5 0), .int .i64 (updI x2 2 v5 1), .int .i64 (updI x2 2 v5 2), .int .i64 0]) := by
              have := S7.out.put HG.out (1 + 2) (.int .i64 v5)
              rw [IP.out] at this
              exact this
            have BP8 : Hid (Blk (w5.setCell ⟨g1, 3, none⟩ (.int .i64 v5)) gf 72 #[.bool q0, .bool q1, .bool true, .bool wd]) := BP5.out.far (fun e => Blk.ne_ BP5.out S7.out.ib (by decide) e) _
            clear S7 y5 z5 l5 BP5 NJ RS HB0 IP IA2
            go_meet
            case rel => exact ⟨updI x2 2 v5, p5, bad5, S8, hp5, BP8, RJ5⟩
          | false =>
            have hjr := of_decide_eq_false Q2.out
            have RJ5 := Lib.hid (regR_skip RJ2.out (by omega) (by rw [HRG.out]; exact hjr))
            clear RJ2
            go_wp2_with fail
            go_meet
            case rel => exact ⟨x2, pj2, badj2, SJ2, hpj2, BJ2, RJ5⟩
        case rest =>
        obtain ⟨x3, pj3, badj3, SJ3, hpj3, BJ3, RJ3⟩ := hcut
        clear SJ2 BJ2 RJ2
        have u2c0 : wc.cell? ⟨gf, 3, none⟩ = some (.bool wd) := BJ3.out.cell 3
        have u2cl := BJ3.out.lt
        have hne3 : g1 ≠ r := by have := SJ3.out.hg; have := SJ3.out.hr; omega
        have e0 : wc.cell? ⟨g1, 0, none⟩ = some (.int .i64 v1) := SJ3.out.ib.cell 0
        have e0l := SJ3.out.ib.lt
        have d0 : wc.cell? ⟨w.heap.size, 0, none⟩ = some (.slice IA ni icap) := SJ3.out.cb.cell 0
        have d1 : wc.cell? ⟨w.heap.size, 1, none⟩ = some (.slice FA nf cf) := SJ3.out.cb.cell 1
        have d2 : wc.cell? ⟨w.heap.size, 2, none⟩ = some (.int .i64 m) := SJ3.out.cb.cell 2
        have f0 : wc.cell? ⟨w.heap.size + 1, 0, none⟩ = some (.string f.name) := SJ3.out.fb.cell 0
        have f1 : wc.cell? ⟨w.heap.size + 1, 1, none⟩ = some (.int .i64 f.frame) := SJ3.out.fb.cell 1
        have f2 : wc.cell? ⟨w.heap.size + 1, 2, none⟩ = some (.int .i64 f.first) := SJ3.out.fb.cell 2
        have f3 : wc.cell? ⟨w.heap.size + 1, 3, none⟩ = some (.int .i64 f.count) := SJ3.out.fb.cell 3
        have f4 : wc.cell? ⟨w.heap.size + 1, 4, none⟩ = some (.int .i64 f.params) := SJ3.out.fb.cell 4
        cases wd with
        | false =>
          have FR0 := Lib.hid (finR_thin RJ3.out hv1 HWD.out)
          clear RJ3 BJ3
          go_upto_region 21 with fail
          have z0 : wc.cell? ⟨g1, 0, none⟩ = some (.int .i64 v1) := SJ3.out.ib.cell 0
          have z1 : wc.cell? ⟨g1, 1, none⟩ = some (.int .i64 (x3 0)) := SJ3.out.ib.cell 1
          have z2 : wc.cell? ⟨g1, 2, none⟩ = some (.int .i64 (x3 1)) := SJ3.out.ib.cell 2
          have z3 : wc.cell? ⟨g1, 3, none⟩ = some (.int .i64 (x3 2)) := SJ3.out.ib.cell 3
          have z4 : wc.cell? ⟨g1, 4, none⟩ = some (.int .i64 0) := SJ3.out.ib.cell 4
          have zb : wc.cell? ⟨r, 2, none⟩ = some (.bool badj3) := SJ3.out.b.cell 2
          have zl := SJ3.out.ib.lt
          have zr := SJ3.out.b.lt
          have rz : ∀ j, wc.frozen? ⟨w.heap.size + 1 + 1, j, none⟩ = false := SJ3.out.rb.frozen
          have r0 : wc.cell? ⟨w.heap.size + 1 + 1, 0, none⟩ = some (.int .i64 0) := SJ3.out.rb.cell 0
          have r1 : wc.cell? ⟨w.heap.size + 1 + 1, 1, none⟩ = some (.int .i64 0) := SJ3.out.rb.cell 1
          have r2 : wc.cell? ⟨w.heap.size + 1 + 1, 2, none⟩ = some (.int .i64 0) := SJ3.out.rb.cell 2
          have r3 : wc.cell? ⟨w.heap.size + 1 + 1, 3, none⟩ = some (.int .i64 0) := SJ3.out.rb.cell 3
          have r4 : wc.cell? ⟨w.heap.size + 1 + 1, 4, none⟩ = some (.int .i64 0) := SJ3.out.rb.cell 4
          have rl := SJ3.out.rb.lt
          have ne1 : g1 ≠ w.heap.size + 1 + 1 := by have := SJ3.out.hg; omega
          have ne2 : r ≠ w.heap.size + 1 + 1 := by have := SJ3.out.hr; omega
          have E : Hid (∀ W', Only (fun b => b = w.heap.size + 1 + 1) wc W' → DInsPost Bf L r (.slice A L c) p nf f last w (.returned (.tuple #[insV ⟨v1, x3 0, x3 1, x3 2, 0⟩, .bool (!badj3)])) W') := fun W' ho => ⟨_, pj3, badj3, rfl, SJ3.out.b.only ho (fun e => HNE.out e), HEND.out _ _ SJ3.out.o ho, hpj3, FR0.out⟩
          have BB := Lib.hid (BRES.out wc SJ3.out.rb)
          have OO := Lib.hid (ORES.out wc)
          unfold insV at E
          simp only at E
          clear SJ3 FR0 BRES ORES HEND
          generalize x3 0 = y0 at *
          generalize x3 1 = y1 at *
          generalize x3 2 = y2 at *
          go_region
          all_goals go_wp2_with fail
          all_goals refine bodyPost_ret (results_cell2 rfl (a := ⟨w.heap.size + 1 + 1, 0, none⟩) rfl rfl (run_loadVar_row _ (w.heap.size + 1 + 1) 41 41 #[.int .i64 v1, .int .i64 y0, .int .i64 y1, .int .i64 y2, .int .i64 0] (0, 0) _ (BB.out (.int .i64 v1) (.int .i64 y0) (.int .i64 y1) (.int .i64 y2) (.int .i64 0)).drew Try.underlying41 rfl (by kernel_rfl))) rfl ?_
          all_goals exact E.out _ ((OO.out (.int .i64 v1) (.int .i64 y0) (.int .i64 y1) (.int .i64 y2) (.int .i64 0)).drew)
        | true =>
          obtain ⟨un, hu1, hu2⟩ := wide_int HWD.out
          obtain ⟨bl1, bl2⟩ := bnd_lt HFB.out hnf2 un
          have FW : Hid (∀ n p2 bad2, i64in n → NumR Bf L 8 (bnd nf f un).1 (bnd nf f un).2 pj3 badj3 p2 bad2 n → FinR Bf L nf f last p ⟨v1, x3 0, x3 1, x3 2, n⟩ p2 bad2) := fun n p2 bad2 hn hN => finR_wide RJ3.out hv1 HWD.out hn (by rw [hu1, Int.toNat_natCast]; exact hN)
          by_cases hop1 : un = 1
          · subst hop1
            have hb1 : bnd nf f 1 = (0, 18446744073709551615) := rfl
            have NW := Lib.hid (SJ3.out.take HGr.out hpj3 hL hc hc2 (n := 8) (lo := 0) (hi := 18446744073709551615) (by omega) (by omega) (by omega) (by omega) (ni := 8) (li := 0) (hi' := 18446744073709551615) rfl rfl rfl)
            rw [hb1] at FW
            have hv11 : (v1 == 1) = true := by rw [hu1]; rfl
            clear RJ3 BJ3 hu1 hb1 bl1 bl2
            go_wp2_with (first | (go_at_call 35; refine NW.out.mono ?_; rintro e w7 ⟨v7, p7, bad7, rfl, hv7, hS7, hp7, hR7, ho7⟩; have S7 := Lib.hid hS7; have FR7 := Lib.hid (FW.out _ _ _ hv7 hR7); have y7 : w7.cell? ⟨g1, 4, none⟩ = some (.int .i64 0) := S7.out.ib.cell 4; have z7 : ∀ i, w7.frozen? ⟨g1, i, none⟩ = false := S7.out.ib.frozen; have l7 := S7.out.ib.lt; clear hS7 hR7 ho7))
            have S8 : Hid (DT w (w7.setCell ⟨g1, 4, none⟩ (.int .i64 v7)) G A L c Bf r p7 bad7 #[.slice IA ni icap, .slice FA nf cf, .int .i64 m] #[.string f.name, .int .i64 f.frame, .int .i64 f.first, .int .i64 f.count, .int .i64 f.params] g1 #[.int .i64 v1, .int .i64 (x3 0), .int .i64 (x3 1), .int .i64 (x3 2), .int .i64 v7]) := S7.out.put HG.out 4 _
            clear S7 y7 z7 l7 NW FW SJ3
            go_upto_region 21 with fail
            generalize w7.setCell ⟨g1, 4, none⟩ (.int .i64 v7) = wz at *
            have z0 : wz.cell? ⟨g1, 0, none⟩ = some (.int .i64 v1) := S8.out.ib.cell 0
            have z1 : wz.cell? ⟨g1, 1, none⟩ = some (.int .i64 (x3 0)) := S8.out.ib.cell 1
            have z2 : wz.cell? ⟨g1, 2, none⟩ = some (.int .i64 (x3 1)) := S8.out.ib.cell 2
            have z3 : wz.cell? ⟨g1, 3, none⟩ = some (.int .i64 (x3 2)) := S8.out.ib.cell 3
            have z4 : wz.cell? ⟨g1, 4, none⟩ = some (.int .i64 v7) := S8.out.ib.cell 4
            have zb : wz.cell? ⟨r, 2, none⟩ = some (.bool bad7) := S8.out.b.cell 2
            have zl := S8.out.ib.lt
            have zr := S8.out.b.lt
            have rz : ∀ j, wz.frozen? ⟨w.heap.size + 1 + 1, j, none⟩ = false := S8.out.rb.frozen
            have r0 : wz.cell? ⟨w.heap.size + 1 + 1, 0, none⟩ = some (.int .i64 0) := S8.out.rb.cell 0
            have r1 : wz.cell? ⟨w.heap.size + 1 + 1, 1, none⟩ = some (.int .i64 0) := S8.out.rb.cell 1
            have r2 : wz.cell? ⟨w.heap.size + 1 + 1, 2, none⟩ = some (.int .i64 0) := S8.out.rb.cell 2
            have r3 : wz.cell? ⟨w.heap.size + 1 + 1, 3, none⟩ = some (.int .i64 0) := S8.out.rb.cell 3
            have r4 : wz.cell? ⟨w.heap.size + 1 + 1, 4, none⟩ = some (.int .i64 0) := S8.out.rb.cell 4
            have rl := S8.out.rb.lt
            have ne1 : g1 ≠ w.heap.size + 1 + 1 := by have := S8.out.hg; omega
            have ne2 : r ≠ w.heap.size + 1 + 1 := by have := S8.out.hr; omega
            have E : Hid (∀ W', Only (fun b => b = w.heap.size + 1 + 1) wz W' → DInsPost Bf L r (.slice A L c) p nf f last w (.returned (.tuple #[insV ⟨v1, x3 0, x3 1, x3 2, v7⟩, .bool (!bad7)])) W') := fun W' ho => ⟨_, p7, bad7, rfl, S8.out.b.only ho (fun e => HNE.out e), HEND.out _ _ S8.out.o ho, hp7, FR7.out⟩
            have BB := Lib.hid (BRES.out wz S8.out.rb)
            have OO := Lib.hid (ORES.out wz)
            unfold insV at E
            simp only at E
            clear S8 FR7 BRES ORES HEND
            generalize x3 0 = y0 at *
            generalize x3 1 = y1 at *
            generalize x3 2 = y2 at *
            go_region
            all_goals go_wp2_with fail
            all_goals refine bodyPost_ret (results_cell2 rfl (a := ⟨w.heap.size + 1 + 1, 0, none⟩) rfl rfl (run_loadVar_row _ (w.heap.size + 1 + 1) 41 41 #[.int .i64 v1, .int .i64 y0, .int .i64 y1, .int .i64 y2, .int .i64 v7] (0, 0) _ (BB.out (.int .i64 v1) (.int .i64 y0) (.int .i64 y1) (.int .i64 y2) (.int .i64 v7)).drew Try.underlying41 rfl (by kernel_rfl))) rfl ?_
            all_goals exact E.out _ ((OO.out (.int .i64 v1) (.int .i64 y0) (.int .i64 y1) (.int .i64 y2) (.int .i64 v7)).drew)
          · have BC := Lib.hid (fun w' => dbounds_c w' IA ni icap FA nf cf m un f HFB.out hnf hnf2 hu2 (by rw [← hu1]; exact HWD.out) hop1)
            have NW : Hid (∀ w' (h : DT w w' G A L c Bf r pj3 badj3 #[.slice IA ni icap, .slice FA nf cf, .int .i64 m] #[.string f.name, .int .i64 f.frame, .int .i64 f.first, .int .i64 f.count, .int .i64 f.params] g1 #[.int .i64 v1, .int .i64 (x3 0), .int .i64 (x3 1), .int .i64 (x3 2), .int .i64 0]), Calls Try.prog 35 #[.pointer (some ⟨r, 0, none⟩), .int .i64 8, .int .u64 ((bnd nf f un).1 : Nat), .int .u64 ((bnd nf f un).2 : Nat)] w' fun e w2 => ∃ v p2 bad2, e = .returned (.int .i64 v) ∧ i64in v ∧ DT w w2 G A L c Bf r p2 bad2 #[.slice IA ni icap, .slice FA nf cf, .int .i64 m] #[.string f.name, .int .i64 f.frame, .int .i64 f.first, .int .i64 f.count, .int .i64 f.params] g1 #[.int .i64 v1, .int .i64 (x3 0), .int .i64 (x3 1), .int .i64 (x3 2), .int .i64 0] ∧ p2 ≤ L ∧ NumR Bf L 8 (bnd nf f un).1 (bnd nf f un).2 pj3 badj3 p2 bad2 v ∧ Only (fun b => b = r) w' w2) :=
              fun w' h => h.take HGr.out hpj3 hL hc hc2 (n := 8) (by omega) (by omega) bl1 bl2 rfl rfl rfl
            have hv11 : (v1 == 1) = false := by rw [hu1]; exact beq_eq_false_iff_ne.2 (by omega)
            rw [← hu1] at BC
            unfold fnV codeV at BC
            have bl1' : (bnd nf f un).1 < 18446744073709551616 := bl1
            clear RJ3 BJ3 hu1 hop1
            generalize (bnd nf f un).1 = b1 at *
            generalize (bnd nf f un).2 = b2 at *
            go_wp2_with (first
              | (go_at_call 44; refine (BC.out _).mono ?_; rintro e w6 ⟨rfl, hb6⟩; have S6 := Lib.hid (SJ3.out.quiet (Only.ofBelow hb6)); clear hb6)
              | (have X6 := S6; go_at_call 35; refine (NW.out _ X6.out).mono ?_; rintro e w7 ⟨v7, p7, bad7, rfl, hv7, hS7, hp7, hR7, ho7⟩; have S7 := Lib.hid hS7; have FR7 := Lib.hid (FW.out _ _ _ hv7 hR7); have y7 : w7.cell? ⟨g1, 4, none⟩ = some (.int .i64 0) := S7.out.ib.cell 4; have z7 : ∀ i, w7.frozen? ⟨g1, i, none⟩ = false := S7.out.ib.frozen; have l7 := S7.out.ib.lt; clear hS7 hR7 ho7))
            have S8 : Hid (DT w (w7.setCell ⟨g1, 4, none⟩ (.int .i64 v7)) G A L c Bf r p7 bad7 #[.slice IA ni icap, .slice FA nf cf, .int .i64 m] #[.string f.name, .int .i64 f.frame, .int .i64 f.first, .int .i64 f.count, .int .i64 f.params] g1 #[.int .i64 v1, .int .i64 (x3 0), .int .i64 (x3 1), .int .i64 (x3 2), .int .i64 v7]) := S7.out.put HG.out 4 _
            clear S7 y7 z7 l7 NW FW SJ3 BC X6 S6
            go_upto_region 21 with fail
            generalize w7.setCell ⟨g1, 4, none⟩ (.int .i64 v7) = wz at *
            have z0 : wz.cell? ⟨g1, 0, none⟩ = some (.int .i64 v1) := S8.out.ib.cell 0
            have z1 : wz.cell? ⟨g1, 1, none⟩ = some (.int .i64 (x3 0)) := S8.out.ib.cell 1
            have z2 : wz.cell? ⟨g1, 2, none⟩ = some (.int .i64 (x3 1)) := S8.out.ib.cell 2
            have z3 : wz.cell? ⟨g1, 3, none⟩ = some (.int .i64 (x3 2)) := S8.out.ib.cell 3
            have z4 : wz.cell? ⟨g1, 4, none⟩ = some (.int .i64 v7) := S8.out.ib.cell 4
            have zb : wz.cell? ⟨r, 2, none⟩ = some (.bool bad7) := S8.out.b.cell 2
            have zl := S8.out.ib.lt
            have zr := S8.out.b.lt
            have rz : ∀ j, wz.frozen? ⟨w.heap.size + 1 + 1, j, none⟩ = false := S8.out.rb.frozen
            have r0 : wz.cell? ⟨w.heap.size + 1 + 1, 0, none⟩ = some (.int .i64 0) := S8.out.rb.cell 0
            have r1 : wz.cell? ⟨w.heap.size + 1 + 1, 1, none⟩ = some (.int .i64 0) := S8.out.rb.cell 1
            have r2 : wz.cell? ⟨w.heap.size + 1 + 1, 2, none⟩ = some (.int .i64 0) := S8.out.rb.cell 2
            have r3 : wz.cell? ⟨w.heap.size + 1 + 1, 3, none⟩ = some (.int .i64 0) := S8.out.rb.cell 3
            have r4 : wz.cell? ⟨w.heap.size + 1 + 1, 4, none⟩ = some (.int .i64 0) := S8.out.rb.cell 4
            have rl := S8.out.rb.lt
            have ne1 : g1 ≠ w.heap.size + 1 + 1 := by have := S8.out.hg; omega
            have ne2 : r ≠ w.heap.size + 1 + 1 := by have := S8.out.hr; omega
            have E : Hid (∀ W', Only (fun b => b = w.heap.size + 1 + 1) wz W' → DInsPost Bf L r (.slice A L c) p nf f last w (.returned (.tuple #[insV ⟨v1, x3 0, x3 1, x3 2, v7⟩, .bool (!bad7)])) W') := fun W' ho => ⟨_, p7, bad7, rfl, S8.out.b.only ho (fun e => HNE.out e), HEND.out _ _ S8.out.o ho, hp7, FR7.out⟩
            have BB := Lib.hid (BRES.out wz S8.out.rb)
            have OO := Lib.hid (ORES.out wz)
            unfold insV at E
            simp only at E
            clear S8 FR7 BRES ORES HEND
            generalize x3 0 = y0 at *
            generalize x3 1 = y1 at *
            generalize x3 2 = y2 at *
            go_region
            all_goals go_wp2_with fail
            all_goals refine bodyPost_ret (results_cell2 rfl (a := ⟨w.heap.size + 1 + 1, 0, none⟩) rfl rfl (run_loadVar_row _ (w.heap.size + 1 + 1) 41 41 #[.int .i64 v1, .int .i64 y0, .int .i64 y1, .int .i64 y2, .int .i64 v7] (0, 0) _ (BB.out (.int .i64 v1) (.int .i64 y0) (.int .i64 y1) (.int .i64 y2) (.int .i64 v7)).drew Try.underlying41 rfl (by kernel_rfl))) rfl ?_
            all_goals exact E.out _ ((OO.out (.int .i64 v1) (.int .i64 y0) (.int .i64 y1) (.int .i64 y2) (.int .i64 v7)).drew)
end Go.Proofs.Ytafhjpehkfcmjaa
