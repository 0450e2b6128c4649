/- r16's statements: what New tells, of all that it is handed. -/
import Derived.Test.YtkjfbojmkkdgoaaL13
set_option linter.unusedVariables false
set_option linter.unusedSimpArgs false
namespace Go.Proofs.Ytkjfbojmkkdgoaa
open Go.RowKit
/-- Code and input, in memory. -/
structure CA (w : World) (G : Nat → Prop) (A : Option Addr) (ni ci : Nat) (X : Nat → Ins) (B : Option Addr) (nf cf : Nat) (Fs : Nat → Fn) (m : Int) (NA : Option Addr) (xs : List Int) (nc : Nat) : Prop where
  il : IL w G A ni X
  ci_ : ni ≤ ci
  fl : FL w G B nf Fs
  m_ : i64in m
  nf_ : nf ≤ 1000000
  nl : NL w G NA xs
  hA : A = none → ci = 0
  hB : B = none → cf = 0
  hN : NA = none → nc = 0
  xs_ : ∀ x ∈ xs, i64in x
  ni_ : ni ≤ 1000000000
section
variable {w w' : World} {F G G' : Nat → Prop} {A : Option Addr} {ni ci : Nat} {X : Nat → Ins} {B : Option Addr} {nf cf : Nat} {Fs : Nat → Fn} {m : Int} {NA : Option Addr} {xs : List Int} {nc : Nat} {sl hl : Int}
theorem CA.tr (h : CA w G A ni ci X B nf cf Fs m NA xs nc) (o : Only F w w') (hd : ∀ b, b < w.heap.size → G b → ¬ F b ∧ G' b) : CA w' G' A ni ci X B nf cf Fs m NA xs nc :=
  ⟨h.il.tr o hd, h.ci_, h.fl.tr o hd, h.m_, h.nf_, h.nl.tr o hd, h.hA, h.hB, h.hN, h.xs_, h.ni_⟩
theorem CA.low (h : CA w G A ni ci X B nf cf Fs m NA xs nc) : CA w (fun b => b < w.heap.size) A ni ci X B nf cf Fs m NA xs nc := h.tr (Only.refl (fun _ => False) w) fun b hb _ => ⟨fun h => h, hb⟩
theorem CA.below (h : CA w G A ni ci X B nf cf Fs m NA xs nc) {n : Nat} (hb : Below n w w') (hd : ∀ b, G b → b < n) : CA w' G A ni ci X B nf cf Fs m NA xs nc :=
  h.tr (F := fun b => n ≤ b) ⟨hb.os, hb.tape, hb.output, hb.size, fun b h1 h2 => hb.block b (by omega)⟩ fun b _ h1 => ⟨by have := hd b h1; omega, h1⟩
structure NewOk (ni : Nat) (X : Nat → Ins) (nf : Nat) (Fs : Nat → Fn) (m : Int) (xs : List Int) (sl hl : Int) : Prop where
  ok : CodeOk ni X nf Fs m
  inp : ¬ 1048576 < (xs.length : Int)
  s0 : ¬ sl < 0
  s1 : ¬ 1099511627776 < sl
  h0 : ¬ hl < 0
  h1 : ¬ 1099511627776 < hl
theorem new_lim (h : CA w G A ni ci X B nf cf Fs m NA xs nc) (hok : CodeOk ni X nf Fs m) (hin : ¬ 1048576 < (xs.length : Int)) (hb : sl < 0 ∨ 1099511627776 < sl ∨ hl < 0 ∨ 1099511627776 < hl) :
    Calls Try.prog 19 #[codeV A ni ci B nf cf m, .slice NA xs.length nc, .agg #[.int .i64 sl, .int .i64 hl]] w fun e w' => e = .returned (.tuple #[.pointer none, .int .i64 5]) ∧ Below w.heap.size w w' := by
  have h' := h.low
  by_cases h0 : sl < 0
  · exact new_lim1 w _ (fun _ h => h) A ni ci X B nf cf Fs m h'.il h'.ci_ h'.fl h'.m_ h'.nf_ NA xs nc h'.nl sl hl hok hin h0
  by_cases h1 : 1099511627776 < sl
  · exact new_lim2 w _ (fun _ h => h) A ni ci X B nf cf Fs m h'.il h'.ci_ h'.fl h'.m_ h'.nf_ NA xs nc h'.nl sl hl hok hin h0 h1
  by_cases h2 : hl < 0
  · exact new_lim3 w _ (fun _ h => h) A ni ci X B nf cf Fs m h'.il h'.ci_ h'.fl h'.m_ h'.nf_ NA xs nc h'.nl sl hl hok hin h0 h1 h2
  · exact new_lim4 w _ (fun _ h => h) A ni ci X B nf cf Fs m h'.il h'.ci_ h'.fl h'.m_ h'.nf_ NA xs nc h'.nl sl hl hok hin h0 h1 h2 (by omega)
/-- Which error New tells. -/
theorem new_no (A : Option Addr) (ni ci : Nat) (X : Nat → Ins) (B : Option Addr) (nf cf : Nat) (Fs : Nat → Fn) (m : Int) (NA : Option Addr) (xs : List Int) (nc : Nat) (sl hl : Int) (hno : ¬ NewOk ni X nf Fs m xs sl hl) :
    ∃ er : Int, (er = 210 ∨ er = 4 ∨ er = 5) ∧ ∀ (w : World) (G : Nat → Prop), CA w G A ni ci X B nf cf Fs m NA xs nc →
      Calls Try.prog 19 #[codeV A ni ci B nf cf m, .slice NA xs.length nc, .agg #[.int .i64 sl, .int .i64 hl]] w fun e w' => e = .returned (.tuple #[.pointer none, .int .i64 er]) ∧ Below w.heap.size w w' := by
  by_cases hok : CodeOk ni X nf Fs m
  · by_cases hin : 1048576 < (xs.length : Int)
    · exact ⟨4, by omega, fun w G h => new_input w _ (fun _ h => h) A ni ci X B nf cf Fs m h.low.il h.ci_ h.low.fl h.m_ h.nf_ NA xs nc h.low.nl sl hl hok hin⟩
    · refine ⟨5, by omega, fun w G h => new_lim h hok hin ?_⟩
      refine Decidable.byContradiction fun hh => hno ⟨hok, hin, by omega, by omega, by omega, by omega⟩
  · exact ⟨210, by omega, fun w G h => new_form w _ (fun _ h => h) A ni ci X B nf cf Fs m h.low.il h.ci_ h.low.fl h.m_ h.nf_ NA xs nc h.low.nl sl hl hok⟩
def kOf (ni : Nat) (X : Nat → Ins) (nf : Nat) (Fs : Nat → Fn) (m sl hl : Int) : MK := { ni := ni, X := X, nf := nf, Fs := Fs, mn := m, sl := sl, hl := hl }
theorem new_yes (h : CA w G A ni ci X B nf cf Fs m NA xs nc) (ok : NewOk ni X nf Fs m xs sl hl) :
    Calls Try.prog 19 #[codeV A ni ci B nf cf m, .slice NA xs.length nc, .agg #[.int .i64 sl, .int .i64 hl]] w fun e w' => ∃ g, e = .returned (.tuple #[.pointer (some ⟨g, 0, none⟩), .int .i64 0]) ∧ MO w' (fun b => w.heap.size ≤ b) g (kOf ni X nf Fs m sl hl) (newQ (kOf ni X nf Fs m sl hl) xs) ∧ Below w.heap.size w w' :=
  new_ok w _ (fun _ h => h) A ni ci X B nf cf Fs m h.low.il h.ci_ h.low.fl h.m_ h.nf_ NA xs nc h.low.nl sl hl ok.ok ok.inp ok.s0 ok.s1 ok.h0 ok.h1 h.hA h.hB h.hN h.xs_ h.ni_
theorem CA.sound (h : CA w G A ni ci X B nf cf Fs m NA xs nc) (ok : NewOk ni X nf Fs m xs sl hl) : Sound (kOf ni X nf Fs m sl hl) := by
  have h1 := h.ni_
  have h2 := ok.s0
  have h3 := ok.s1
  have h4 := ok.h0
  have h5 := ok.h1
  exact ⟨ok.ok, by show (ni : Int) ≤ _; omega, fun k hk => (h.il.2 k hk).1.n, by show 0 ≤ sl; omega, by show sl ≤ _; omega, by show 0 ≤ hl; omega, by show hl ≤ _; omega⟩
end
/-- A machine, and what lies beside it. -/
theorem MO.le {w : World} {C : Nat → Prop} {g : Nat} {K : MK} {q : MQ} (h : MO w C g K q) : 0 ≤ q.steps := h.2.1
theorem MO.evn {w : World} {C : Nat → Prop} {g : Nat} {K : MK} {q : MQ} (h : MO w C g K q) : q.ev.length ≤ 1048576 := h.1.evn
/-- An outcome, as a row. -/
theorem out_c (w : World) (C : Nat → Prop) (g : Nat) (K : MK) (q : MQ) (h : MO w C g K q) :
    Calls Try.prog 22 #[.pointer (some ⟨g, 0, none⟩)] w fun e w' => ∃ A cap, e = .returned (.agg #[.slice A q.ev.length cap, .int .i64 q.fin, .int .i64 q.kind, .int .i64 q.val, .int .i64 q.steps, .int .i64 q.hp.tk, .int .i64 q.depth]) ∧ Row w' (fun b => w.heap.size ≤ b) 50 2 (.slice A q.ev.length cap) q.ev.length (evs q.ev) ∧ Below w.heap.size w w' := by
  obtain ⟨gd, h0, z, p, hm⟩ := h
  refine (outcome_c w C z g p K q _ hm (by have := gd.evn; omega)).mono ?_
  rintro e w' ⟨v, rfl, hR, hb⟩
  obtain ⟨A, cap, rfl, -⟩ := hR.shape
  exact ⟨A, cap, rfl, hR, hb⟩
theorem run_r {K : MK} (s : Sound K) (w : World) (C : Nat → Prop) (g : Nat) (q q' : MQ) (h : MO w C g K q) (hC : ∀ b, w.heap.size ≤ b → C b) (fuel : Int) (hf : ¬ fuel < 0) (hf2 : ¬ 1099511627776 < fuel) (hst : q.steps + (madeN K fuel.toNat q : Int) < 4000000000000) (hq : runN K fuel.toNat q = q') :
    Calls Try.prog 20 #[.pointer (some ⟨g, 0, none⟩), .int .i64 fuel] w fun e w' => ∃ A cap, e = .returned (.tuple #[.agg #[.slice A q'.ev.length cap, .int .i64 q'.fin, .int .i64 q'.kind, .int .i64 q'.val, .int .i64 q'.steps, .int .i64 q'.hp.tk, .int .i64 q'.depth], .int .i64 0]) ∧ Row w' (fun b => w.heap.size ≤ b) 50 2 (.slice A q'.ev.length cap) q'.ev.length (evs q'.ev) ∧ MO w' (fun b => C b ∧ (Value.slice A q'.ev.length cap).ownBlock ≠ some b) g K q' ∧ Only C w w' := by
  refine (run_c s w C g q h hC fuel hf hf2 hst).mono ?_
  rw [hq]
  rintro e w' ⟨v, rfl, hR, hM, hO⟩
  obtain ⟨A, cap, rfl, -⟩ := hR.shape
  exact ⟨A, cap, rfl, hR, hM, hO⟩
/-- The same, its parts by other names. -/
structure QV (q : MQ) (xs : List (Int × Int)) (n : Nat) (f k v s t d : Int) : Prop where
  ev : q.ev = xs
  n_ : xs.length = n
  fin : q.fin = f
  kind : q.kind = k
  val : q.val = v
  steps : q.steps = s
  tk : q.hp.tk = t
  depth : q.depth = d
theorem out_v {w : World} {C : Nat → Prop} {g : Nat} {K : MK} {q : MQ} (h : MO w C g K q) {xs : List (Int × Int)} {n : Nat} {f k v s t d : Int} (hv : QV q xs n f k v s t d) :
    Calls Try.prog 22 #[.pointer (some ⟨g, 0, none⟩)] w fun e w' => ∃ A cap, e = .returned (.agg #[.slice A n cap, .int .i64 f, .int .i64 k, .int .i64 v, .int .i64 s, .int .i64 t, .int .i64 d]) ∧ Row w' (fun b => w.heap.size ≤ b) 50 2 (.slice A n cap) n (evs xs) ∧ Below w.heap.size w w' := by
  obtain ⟨rfl, rfl, rfl, rfl, rfl, rfl, rfl, rfl⟩ := hv
  exact out_c w C g K q h
theorem run_v {K : MK} (s : Sound K) {w : World} {C : Nat → Prop} {g : Nat} {q q' : MQ} (h : MO w C g K q) (hC : ∀ b, w.heap.size ≤ b → C b) (fuel : Int) (hf : ¬ fuel < 0) (hf2 : ¬ 1099511627776 < fuel) (hst : q.steps + (madeN K fuel.toNat q : Int) < 4000000000000) (hq : runN K fuel.toNat q = q') {xs : List (Int × Int)} {n : Nat} {f k v s t d : Int} (hv : QV q' xs n f k v s t d) :
    Calls Try.prog 20 #[.pointer (some ⟨g, 0, none⟩), .int .i64 fuel] w fun e w' => ∃ A cap, e = .returned (.tuple #[.agg #[.slice A n cap, .int .i64 f, .int .i64 k, .int .i64 v, .int .i64 s, .int .i64 t, .int .i64 d], .int .i64 0]) ∧ Row w' (fun b => w.heap.size ≤ b) 50 2 (.slice A n cap) n (evs xs) ∧ MO w' (fun b => C b ∧ (Value.slice A n cap).ownBlock ≠ some b) g K q' ∧ Only C w w' := by
  obtain ⟨rfl, rfl, rfl, rfl, rfl, rfl, rfl, rfl⟩ := hv
  exact run_r ‹Sound K› w C g q q' h hC fuel hf hf2 hst hq
end Go.Proofs.Ytkjfbojmkkdgoaa
