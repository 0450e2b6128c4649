/- Machines side by side, and what is told of them. -/
import Derived.Test.YtkjfbojmkkdgoaaF1
import Derived.Test.YtkjfbojmkkdgoaaP3
set_option linter.unusedVariables false
set_option linter.unusedSimpArgs false
namespace Go.Proofs.Ytkjfbojmkkdgoaa
open Go.RowKit
/-- What lay there stands. -/
def TL (w : World) : Thing := fun wx U => (∀ b, b < w.heap.size → U b) ∧ Below w.heap.size w wx
theorem part_l (w : World) : Part (TL w) := fun wx wy U U' V h o hd => by
  have hs := h.2.size
  refine ⟨fun b hb => (hd b (by omega) (h.1 b hb)).2, o.os.trans h.2.os, o.tape.trans h.2.tape, o.output.trans h.2.output, Nat.le_trans hs o.size, fun b hb => (o.block b (by omega) (hd b (by omega) (h.1 b hb)).1).trans (h.2.block b hb)⟩
section
variable {w w' : World} {z : Nat → Nat} {l : List Thing}
theorem Fam.start (w : World) : Fam w (fun _ => 0) [TL w] := by
  refine ⟨fun i M h => ?_, fun i M h => ?_⟩ <;> cases i with
  | zero => cases h; first | exact part_l w | exact ⟨fun _ _ => rfl, Below.refl _ _⟩
  | succ i => cases h
theorem Fam.blk (h : Fam w z l) (cs : Array Value) (t : TypeId) : ∃ z', Fam (w.alloc (.cells cs t)) z' (l ++ [TB w.heap.size t cs]) :=
  ⟨_, h.add ((Only.refl _ w).alloc _) (part_b _ _ _) ⟨Blk.new w t cs, Nat.le_refl _⟩⟩
theorem Fam.low {w0 : World} (h : Fam w z l) (i : Nat) (hi : l[i]? = some (TL w0)) : Below w0.heap.size w0 w := (h.at_ i _ hi).2
theorem Fam.cells (h : Fam w z l) (i : Nat) {g : Nat} {t : TypeId} {cs : Array Value} (hi : l[i]? = some (TB g t cs)) : Blk w g t cs := (h.at_ i _ hi).1
theorem Fam.row (h : Fam w z l) (i : Nat) {v : Value} {n : Nat} {xs : List (Int × Int)} (hi : l[i]? = some (TR v n xs)) : Row w (fun b => z b = i) 50 2 v n (evs xs) := h.at_ i _ hi
theorem Fam.run {K : MK} (s : Sound K) (h : Fam w z l) (i g : Nat) {q q' : MQ} (hi : l[i]? = some (TM g K q)) (fuel : Int) (hf : ¬ fuel < 0) (hf2 : ¬ 1099511627776 < fuel) (hst : q.steps + (madeN K fuel.toNat q : Int) < 4000000000000) (hq : runN K fuel.toNat q = q') {xs : List (Int × Int)} {n : Nat} {f k v st t d : Int} (hv : QV q' xs n f k v st t d) :
    Calls Try.prog 20 #[.pointer (some ⟨g, 0, none⟩), .int .i64 fuel] w fun e w' => ∃ A cap z', e = .returned (.tuple #[.agg #[.slice A n cap, .int .i64 f, .int .i64 k, .int .i64 v, .int .i64 st, .int .i64 t, .int .i64 d], .int .i64 0]) ∧ Fam w' z' (l.set i (TM g K q') ++ [TR (.slice A n cap) n xs]) := by
  have hl : i < l.length := (List.getElem?_eq_some_iff.1 hi).1
  have hm : MO w (fun b => nz z w.heap.size i b = i) g K q := MO.more (h.at_ i _ hi) fun b hb hz => by rw [nz_lt z hb]; exact hz
  refine (run_v s hm (fun b hb => nz_ge z hb i) fuel hf hf2 hst hq hv).mono ?_
  rintro e w' ⟨A, cap, rfl, hR, hM, hO⟩
  exact ⟨A, cap, _, rfl, h.turn i hl (Value.slice A n cap).ownBlock (part_m _ _ _) (part_r _ _ _) hO hM ⟨hR.1, fun b hb => ⟨hR.2 b hb, hb⟩⟩⟩
theorem Fam.outc (h : Fam w z l) (i g : Nat) {K : MK} {q : MQ} (hi : l[i]? = some (TM g K q)) {xs : List (Int × Int)} {n : Nat} {f k v st t d : Int} (hv : QV q xs n f k v st t d) :
    Calls Try.prog 22 #[.pointer (some ⟨g, 0, none⟩)] w fun e w' => ∃ A cap z', e = .returned (.agg #[.slice A n cap, .int .i64 f, .int .i64 k, .int .i64 v, .int .i64 st, .int .i64 t, .int .i64 d]) ∧ Fam w' z' (l ++ [TR (.slice A n cap) n xs]) := by
  refine (out_v (h.at_ i _ hi) hv).mono ?_
  rintro e w' ⟨A, cap, rfl, hR, hb⟩
  exact ⟨A, cap, _, rfl, h.add (Only.ofBelow hb) (part_r _ _ _) hR⟩
theorem Fam.step {K : MK} (s : Sound K) (h : Fam w z l) (i g : Nat) {q : MQ} (hi : l[i]? = some (TM g K q)) (hst : q.steps < 4000000000000) :
    Calls Try.prog 21 #[.pointer (some ⟨g, 0, none⟩)] w fun e w' => ∃ z', e = .returned (.bool (goes K q)) ∧ Fam w' z' (l.set i (TM g K (stepTo K q))) := by
  have hl : i < l.length := (List.getElem?_eq_some_iff.1 hi).1
  have hm : MO w (fun b => nz z w.heap.size i b = i) g K q := MO.more (h.at_ i _ hi) fun b hb hz => by rw [nz_lt z hb]; exact hz
  refine (step_c s w _ g q hm (fun b hb => nz_ge z hb i) hst).mono ?_
  rintro e w' ⟨rfl, hM, hO⟩
  exact ⟨_, rfl, h.move i hl (part_m _ _ _) hO hM⟩
theorem Fam.new_ (h : Fam w z l) {G : Nat → Prop} {A : Option Addr} {ni ci : Nat} {X : Nat → Ins} {B : Option Addr} {nf cf : Nat} {Fs : Nat → Fn} {m : Int} {NA : Option Addr} {xs : List Int} {nc : Nat} {sl hl : Int} (c : CA w G A ni ci X B nf cf Fs m NA xs nc) (ok : NewOk ni X nf Fs m xs sl hl) (n : Nat) (hn : xs.length = n) :
    Calls Try.prog 19 #[.agg #[.slice A ni ci, .slice B nf cf, .int .i64 m], .slice NA n nc, .agg #[.int .i64 sl, .int .i64 hl]] w fun e w' => ∃ g z', e = .returned (.tuple #[.pointer (some ⟨g, 0, none⟩), .int .i64 0]) ∧ Fam w' z' (l ++ [TM g (kOf ni X nf Fs m sl hl) (newQ (kOf ni X nf Fs m sl hl) xs)]) := by
  subst hn
  refine (new_yes c ok).mono ?_
  rintro e w' ⟨g, rfl, hM, hb⟩
  exact ⟨g, _, rfl, h.add (Only.ofBelow hb) (part_m _ _ _) hM⟩
theorem Fam.same (h : Fam w z l) (i j : Nat) {A A' : Option Addr} {n c c' : Nat} {xs : List (Int × Int)} (hx : xs.length = n) (hn : n ≤ 1048576) (h1 : l[i]? = some (TR (.slice A n c) n xs)) (h2 : l[j]? = some (TR (.slice A' n c') n xs)) (fi k v S t d : Int) :
    Calls Try.prog 23 #[.agg #[.slice A n c, .int .i64 fi, .int .i64 k, .int .i64 v, .int .i64 S, .int .i64 t, .int .i64 d], .agg #[.slice A' n c', .int .i64 fi, .int .i64 k, .int .i64 v, .int .i64 S, .int .i64 t, .int .i64 d]] w fun e w' => e = .returned (.bool true) ∧ Fam w' z l := by
  refine (same_yes w _ _ A A' n c c' xs hx fi k v S t d (h.row i h1) (h.row j h2) hn).mono ?_
  rintro e w' ⟨rfl, hb⟩
  exact ⟨rfl, h.quiet (Only.ofBelow hb)⟩
theorem QV.of (q : MQ) : QV q q.ev q.ev.length q.fin q.kind q.val q.steps q.hp.tk q.depth := ⟨rfl, rfl, rfl, rfl, rfl, rfl, rfl, rfl⟩
end
end Go.Proofs.Ytkjfbojmkkdgoaa
