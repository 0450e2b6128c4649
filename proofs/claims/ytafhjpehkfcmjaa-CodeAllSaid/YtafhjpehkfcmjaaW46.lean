/- What a Read answers, as one thing; two answers that are the same. -/
import Derived.Test.YtafhjpehkfcmjaaW44
import Derived.Laws.BytesArg
set_option linter.unusedVariables false
set_option linter.unusedSimpArgs false
namespace Go.Proofs.Ytafhjpehkfcmjaa
open Go.RowKit
def outI : Out → List Ins
  | .bad _ => []
  | .good c => c.ins
def outF : Out → List Fn
  | .bad _ => []
  | .good c => c.fns
def outM : Out → Nat
  | .bad _ => 0
  | .good c => c.main
def outQ : Out → Nat
  | .bad q => q
  | .good _ => 0
def outE : Out → Int
  | .bad _ => 220
  | .good _ => 0
theorem run_congr {B B' : Nat → UInt8} {L : Nat} (hB : ∀ i, i < L → B i = B' i) : ∀ (x : Pr) (p : Nat), run B L x p = run B' L x p
  | .done c, p => by rw [run, run]
  | .need n ok f, p => by
    by_cases h1 : p + n ≤ L
    · have e : slc B p n = slc B' p n := slc_congr fun i _ hi => hB i (by omega)
      by_cases h2 : ok (slc B p n)
      · rw [run_step h1 h2, run_step h1 (e ▸ h2), ← e]
        exact run_congr hB _ _
      · rw [run_wrong h1 h2, run_wrong h1 (e ▸ h2)]
    · rw [run_lack (by omega), run_lack (by omega)]
/-- The lists of an answer, at hand; and its bounds. -/
structure Res (w : World) (G : Nat → Prop) (o : Out) (A : Option Addr) (c1 : Nat) (B : Option Addr) (c2 : Nat) : Prop where
  il : IL w G A (outI o).length (insF (outI o))
  fl : FL w G B (outF o).length (fnF (outF o))
  h1 : (outI o).length ≤ c1
  h2 : (outF o).length ≤ c2
  hm : i64in (outM o)
theorem read_one {Bf : Nat → UInt8} {L : Nat} {w w' : World} {e : Ending} (h : ReadPost Bf L w e w') (hL : L ≤ 268435456) : ∃ A c1 B c2, e = .returned (.tuple #[.agg #[.slice A (outI (run Bf L pAll 0)).length c1, .slice B (outF (run Bf L pAll 0)).length c2, .int .i64 (outM (run Bf L pAll 0) : Int)], .int .i64 (outQ (run Bf L pAll 0) : Int), .int .i64 (outE (run Bf L pAll 0))]) ∧
    Res w' (fun b => w.heap.size ≤ b) (run Bf L pAll 0) A c1 B c2 ∧ Below w.heap.size w w' := by
  obtain ⟨hb, ⟨h, _⟩ | ⟨_, q, hq, rfl⟩ | ⟨_, cd, iv, fv, hq, rfl, hi, hf⟩⟩ := h
  · omega
  · rw [hq]
    exact ⟨none, 0, none, 0, rfl, ⟨⟨Nat.zero_le _, fun i hi => absurd hi (Nat.not_lt_zero _)⟩, ⟨Nat.zero_le _, fun i hi => absurd hi (Nat.not_lt_zero _)⟩, Nat.le_refl _, Nat.le_refl _, ⟨by show (-9223372036854775808 : Int) ≤ 0; omega, by show (0 : Int) ≤ _; omega⟩⟩, hb⟩
  · have hmn : (cd.main : Int) < cd.fns.length := (run_good (by omega) hq).1.2.2.2.1
    have hml := (run_good (by omega) hq).2.2.2.2
    have hmm := enc_min cd.ins.length (insF cd.ins) cd.fns.length (fnF cd.fns) cd.main
    unfold encC at hml
    rw [← hml] at hmm
    obtain ⟨_, h2, h3, _, _⟩ := run_good (by omega) hq
    obtain ⟨A', c1, rfl, l1, _, _⟩ := own_shape hi
    obtain ⟨D', c2, rfl, l2, _, _⟩ := own_shape hf
    have hil := hi.il h2 (by omega)
    have hfl := hf.fl (fun f hf => ⟨(h3 f hf).1, by have := (h3 f hf).2; omega⟩) (by omega)
    rw [hq]
    exact ⟨A', c1, D', c2, rfl, ⟨hil, hfl, l1, l2, ⟨by show _ ≤ (cd.main : Int); omega, by show (cd.main : Int) ≤ _; omega⟩⟩, hb⟩
theorem Res.more {w : World} {G G' : Nat → Prop} {o : Out} {A : Option Addr} {c1 : Nat} {B : Option Addr} {c2 : Nat} (h : Res w G o A c1 B c2) (hG : ∀ b, G b → G' b) : Res w G' o A c1 B c2 :=
  ⟨⟨h.il.1, fun i hi => let ⟨h1, b, off, e, h2, h3⟩ := h.il.2 i hi; ⟨h1, b, off, e, hG b h2, h3⟩⟩, ⟨h.fl.1, fun i hi => let ⟨h1, h0, b, off, e, h2, h3⟩ := h.fl.2 i hi; ⟨h1, h0, b, off, e, hG b h2, h3⟩⟩, h.h1, h.h2, h.hm⟩
theorem Res.only {w w' : World} {G F : Nat → Prop} {o : Out} {A : Option Addr} {c1 : Nat} {B : Option Addr} {c2 : Nat} (h : Res w G o A c1 B c2) (ho : Only F w w') (hd : ∀ b, b < w.heap.size → G b → ¬ F b) : Res w' G o A c1 B c2 := ⟨h.il.only ho hd, h.fl.only ho hd, h.h1, h.h2, h.hm⟩
/-- An answer in a box. -/
structure XB (w : World) (G : Nat → Prop) (g : Nat) (o : Out) (A : Option Addr) (c1 : Nat) (B : Option Addr) (c2 : Nat) : Prop where
  box : Blk w g 25 #[.slice A (outI o).length c1, .slice B (outF o).length c2, .int .i64 (outM o : Int)]
  res : Res w G o A c1 B c2
section
variable {w w' : World} {G G2 F : Nat → Prop} {g g2 : Nat} {o : Out} {A B A2 B2 : Option Addr} {c1 c2 c3 c4 : Nat}
theorem Res.box (h : Res w G o A c1 B c2) : XB (w.alloc (.cells #[.slice A (outI o).length c1, .slice B (outF o).length c2, .int .i64 (outM o : Int)] 25)) G w.heap.size o A c1 B c2 :=
  ⟨Blk.new w 25 _, h.only ((Only.refl (fun _ => False) w).alloc _) (fun _ _ _ h => h)⟩
theorem XB.only (h : XB w G g o A c1 B c2) (ho : Only F w w') (hg : ¬ F g) (hd : ∀ b, b < w.heap.size → G b → ¬ F b) : XB w' G g o A c1 B c2 := ⟨h.box.only ho hg, h.res.only ho hd⟩
theorem XB.below (h : XB w G g o A c1 B c2) (hb : Below w.heap.size w w') : XB w' G g o A c1 B c2 := h.only (Only.ofBelow (F := fun _ => False) hb) (fun h => h) (fun _ _ _ h => h)
theorem XB.same (h : XB w G g o A c1 B c2) (h2 : XB w G2 g2 o A2 c3 B2 c4) :
    Calls Try.prog 20 #[.agg #[.slice A (outI o).length c1, .slice B (outF o).length c2, .int .i64 (outM o : Int)], .agg #[.slice A2 (outI o).length c3, .slice B2 (outF o).length c4, .int .i64 (outM o : Int)]] w fun e w' => e = .returned (.bool true) ∧ Below w.heap.size w w' := by
  refine (same_c w _ _ A (outI o).length c1 (insF (outI o)) B (outF o).length c2 (fnF (outF o)) (outM o) A2 (outI o).length c3 (insF (outI o)) B2 (outF o).length c4 (fnF (outF o)) (outM o) h.res.il h.res.fl h2.res.il h2.res.fl h.res.hm h2.res.hm h.res.h1 h2.res.h1 h.res.h2 h2.res.h2).mono ?_
  rintro e w' ⟨r, rfl, hr, hb⟩
  obtain rfl : r = true := hr.2 ⟨rfl, rfl, rfl, fun _ _ => rfl, fun _ _ => rfl⟩
  exact ⟨rfl, hb⟩
end
theorem bytes_string0 {w : World} {G : Nat → Prop} {D : Option Addr} {n c : Nat} {S : Nat → UInt8} (h : BL w G D n S) : (convert 28 9 (.slice D n c)).run Try.prog w = .ok (.string (nameOf (slc S 0 n))) w := by
  rcases Nat.eq_zero_or_pos n with rfl | hn
  · cases D with
    | none => exact run_convert_bytes_nil w 28 5 Try.underlying28 Try.underlying5 0 c 9 Try.underlying9
    | some a =>
      rw [run_convert_bytes_string w 28 9 5 (some a) 0 c Try.underlying28 Try.underlying5 Try.underlying9]
      have hl := run_loadCells (P := Try.prog) (w := w) a 0 (fun j => .int .u8 0) (fun j hj => absurd hj (Nat.not_lt_zero _))
      rw [run_bytesToString w a 0 c [] hl]
      rfl
  · exact bytes_string h hn
/-- The spare bytes. -/
def spare (k : Nat) : List UInt8 := (List.range k).map fun i : Nat => u8 (167 + (i : Int))
theorem spare_succ (k : Nat) : spare (k + 1) = spare k ++ [u8 (167 + (k : Int))] := by simp [spare, List.range_succ]
theorem spare_length (k : Nat) : (spare k).length = k := by simp [spare]
theorem spare_at (l : List UInt8) (k i : Nat) (h : i < k) (h2 : k ≤ 20) : ((lstF (l ++ spare k) (l.length + i)).toNat : Int) = 167 + (i : Int) := by
  unfold lstF
  rw [List.getD_eq_getElem?_getD, List.getElem?_append_right (by omega)]
  have := u8_int (167 + (i : Int))
  simp [spare, h, this]
  omega
end Go.Proofs.Ytafhjpehkfcmjaa
