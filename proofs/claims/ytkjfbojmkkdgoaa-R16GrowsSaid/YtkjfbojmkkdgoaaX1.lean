/- r16's machine in memory. -/
import Derived.Test.YtkjfbojmkkdgoaaA8
import Derived.Test.YtkjfbojmkkdgoaaB2
import Derived.Test.YtkjfbojmkkdgoaaH2
set_option linter.unusedVariables false
set_option linter.unusedSimpArgs false
namespace Go.Proofs.Ytkjfbojmkkdgoaa
open Go.RowKit
/-- What does not turn: code, limits. -/
structure MK where
  ni : Nat
  X : Nat → Ins
  nf : Nat
  Fs : Nat → Fn
  mn : Int
  sl : Int
  hl : Int
/-- What turns. -/
structure MQ where
  at_ : Int
  fr : Int
  sz : Int
  regs : Int → Int
  st : Int → Int
  hp : QH
  inp : List Int
  cl : List Int
  ev : List (Int × Int)
  fin : Int
  kind : Int
  val : Int
  steps : Int
  depth : Int
/-- Where it lies. -/
structure MP where
  ia : Option Addr
  ic : Nat
  fa : Option Addr
  fc : Nat
  na : Option Addr
  nc : Nat
  row : Value
  far : Nat
  hp : Nat
  cv : Value
  ev : Value
def doesV : Array Value := #[.nilFunc, .func (Fn.func 52) #[] #[], .func (Fn.func 53) #[] #[], .func (Fn.func 51) #[] #[], .func (Fn.func 51) #[] #[], .func (Fn.func 51) #[] #[], .func (Fn.func 54) #[] #[], .func (Fn.func 54) #[] #[], .func (Fn.func 51) #[] #[], .func (Fn.func 51) #[] #[], .func (Fn.func 51) #[] #[], .func (Fn.func 51) #[] #[], .func (Fn.func 55) #[] #[], .func (Fn.func 55) #[] #[], .func (Fn.func 51) #[] #[], .func (Fn.func 51) #[] #[], .func (Fn.func 51) #[] #[], .func (Fn.func 51) #[] #[], .func (Fn.func 56) #[] #[], .func (Fn.func 56) #[] #[], .func (Fn.func 57) #[] #[], .func (Fn.func 58) #[] #[], .func (Fn.func 59) #[] #[], .func (Fn.func 60) #[] #[], .func (Fn.func 61) #[] #[], .func (Fn.func 62) #[] #[], .func (Fn.func 63) #[] #[], .func (Fn.func 64) #[] #[], .func (Fn.func 65) #[] #[], .func (Fn.func 66) #[] #[], .func (Fn.func 67) #[] #[], .func (Fn.func 68) #[] #[], .func (Fn.func 69) #[] #[], .func (Fn.func 70) #[] #[], .func (Fn.func 71) #[] #[], .func (Fn.func 72) #[] #[], .func (Fn.func 73) #[] #[], .func (Fn.func 74) #[] #[], .func (Fn.func 75) #[] #[]]
def fset (f : Nat → Value) (k : Nat) (v : Value) : Nat → Value := fun i => if i = k then v else f i
theorem fset_eq (f : Nat → Value) (k : Nat) (v : Value) : fset f k v k = v := if_pos rfl
theorem fset_ne (f : Nat → Value) {k i : Nat} (h : i ≠ k) (v : Value) : fset f k v i = f i := if_neg h
def mArr (f : Nat → Value) : Array Value := ((List.range 75).map f).toArray
theorem mArr_get (f : Nat → Value) {k : Nat} (h : k < 75) : (mArr f)[k]? = some (f k) := by
  unfold mArr
  rw [List.getElem?_toArray, List.getElem?_map, List.getElem?_range h]
  rfl
theorem mArr_set (f : Nat → Value) (k : Nat) (v : Value) : (mArr f).setIfInBounds k v = mArr (fset f k v) := by
  unfold mArr
  rw [List.setIfInBounds_toArray]
  congr 1
  apply List.ext_getElem?
  intro i
  rw [List.getElem?_set, List.getElem?_map, List.getElem?_map, List.length_map, List.length_range]
  by_cases h : k = i
  · subst h
    by_cases hk : k < 75
    · rw [if_pos rfl, if_pos hk, List.getElem?_range hk]; simp [fset]
    · rw [if_pos rfl, if_neg hk, List.getElem?_eq_none (by simp; omega)]; rfl
  · rw [if_neg h]
    by_cases hi : i < 75
    · rw [List.getElem?_range hi]; simp [fset, show ¬ i = k from fun e => h e.symm]
    · rw [List.getElem?_eq_none (by simp; omega)]; rfl
/-- What stands in the machine's own cells. -/
structure MF (f : Nat → Value) (p : MP) (K : MK) (q : MQ) : Prop where
  c0 : f 0 = .slice p.ia K.ni p.ic
  c1 : f 1 = .slice p.fa K.nf p.fc
  c2 : f 2 = .int .i64 K.mn
  c3 : f 3 = .slice p.na q.inp.length p.nc
  c4 : f 4 = .int .i64 K.sl
  c5 : f 5 = .int .i64 K.hl
  c61 : f 61 = p.row
  c62 : f 62 = .map (some p.far)
  c63 : f 63 = .pointer (some ⟨p.hp, 0, none⟩)
  c64 : f 64 = .int .i64 q.at_
  c65 : f 65 = .int .i64 q.fr
  c66 : f 66 = .int .i64 q.sz
  c67 : f 67 = p.cv
  c68 : f 68 = p.ev
  c69 : f 69 = .int .i64 q.fin
  c70 : f 70 = .int .i64 q.kind
  c71 : f 71 = .int .i64 q.val
  c72 : f 72 = .int .i64 q.steps
  c73 : f 73 = .int .i64 0
  c74 : f 74 = .int .i64 q.depth
  ds : ∀ k : Nat, k < 39 → some (f (6 + k)) = doesV[k]?
  rg : ∀ k : Nat, k < 16 → f (45 + k) = .int .i64 (q.regs (k : Int))
section
variable {f : Nat → Value} {p : MP} {K : MK} {q : MQ}
theorem MF.sAt (h : MF f p K q) (x : Int) : MF (fset f 64 (.int .i64 x)) p K { q with at_ := x } :=
  ⟨(fset_ne _ (by decide) _).trans (h.c0), (fset_ne _ (by decide) _).trans (h.c1), (fset_ne _ (by decide) _).trans (h.c2), (fset_ne _ (by decide) _).trans (h.c3), (fset_ne _ (by decide) _).trans (h.c4), (fset_ne _ (by decide) _).trans (h.c5), (fset_ne _ (by decide) _).trans (h.c61), (fset_ne _ (by decide) _).trans (h.c62), (fset_ne _ (by decide) _).trans (h.c63), fset_eq _ _ _, (fset_ne _ (by decide) _).trans (h.c65), (fset_ne _ (by decide) _).trans (h.c66), (fset_ne _ (by decide) _).trans (h.c67), (fset_ne _ (by decide) _).trans (h.c68), (fset_ne _ (by decide) _).trans (h.c69), (fset_ne _ (by decide) _).trans (h.c70), (fset_ne _ (by decide) _).trans (h.c71), (fset_ne _ (by decide) _).trans (h.c72), (fset_ne _ (by decide) _).trans (h.c73), (fset_ne _ (by decide) _).trans (h.c74), fun k hk => by rw [fset_ne _ (by omega)]; exact h.ds k hk, fun k hk => by rw [fset_ne _ (by omega)]; exact h.rg k hk⟩
theorem MF.sFr (h : MF f p K q) (x : Int) : MF (fset f 65 (.int .i64 x)) p K { q with fr := x } :=
  ⟨(fset_ne _ (by decide) _).trans (h.c0), (fset_ne _ (by decide) _).trans (h.c1), (fset_ne _ (by decide) _).trans (h.c2), (fset_ne _ (by decide) _).trans (h.c3), (fset_ne _ (by decide) _).trans (h.c4), (fset_ne _ (by decide) _).trans (h.c5), (fset_ne _ (by decide) _).trans (h.c61), (fset_ne _ (by decide) _).trans (h.c62), (fset_ne _ (by decide) _).trans (h.c63), (fset_ne _ (by decide) _).trans (h.c64), fset_eq _ _ _, (fset_ne _ (by decide) _).trans (h.c66), (fset_ne _ (by decide) _).trans (h.c67), (fset_ne _ (by decide) _).trans (h.c68), (fset_ne _ (by decide) _).trans (h.c69), (fset_ne _ (by decide) _).trans (h.c70), (fset_ne _ (by decide) _).trans (h.c71), (fset_ne _ (by decide) _).trans (h.c72), (fset_ne _ (by decide) _).trans (h.c73), (fset_ne _ (by decide) _).trans (h.c74), fun k hk => by rw [fset_ne _ (by omega)]; exact h.ds k hk, fun k hk => by rw [fset_ne _ (by omega)]; exact h.rg k hk⟩
theorem MF.sSz (h : MF f p K q) (x : Int) : MF (fset f 66 (.int .i64 x)) p K { q with sz := x } :=
  ⟨(fset_ne _ (by decide) _).trans (h.c0), (fset_ne _ (by decide) _).trans (h.c1), (fset_ne _ (by decide) _).trans (h.c2), (fset_ne _ (by decide) _).trans (h.c3), (fset_ne _ (by decide) _).trans (h.c4), (fset_ne _ (by decide) _).trans (h.c5), (fset_ne _ (by decide) _).trans (h.c61), (fset_ne _ (by decide) _).trans (h.c62), (fset_ne _ (by decide) _).trans (h.c63), (fset_ne _ (by decide) _).trans (h.c64), (fset_ne _ (by decide) _).trans (h.c65), fset_eq _ _ _, (fset_ne _ (by decide) _).trans (h.c67), (fset_ne _ (by decide) _).trans (h.c68), (fset_ne _ (by decide) _).trans (h.c69), (fset_ne _ (by decide) _).trans (h.c70), (fset_ne _ (by decide) _).trans (h.c71), (fset_ne _ (by decide) _).trans (h.c72), (fset_ne _ (by decide) _).trans (h.c73), (fset_ne _ (by decide) _).trans (h.c74), fun k hk => by rw [fset_ne _ (by omega)]; exact h.ds k hk, fun k hk => by rw [fset_ne _ (by omega)]; exact h.rg k hk⟩
theorem MF.sFin (h : MF f p K q) (x : Int) : MF (fset f 69 (.int .i64 x)) p K { q with fin := x } :=
  ⟨(fset_ne _ (by decide) _).trans (h.c0), (fset_ne _ (by decide) _).trans (h.c1), (fset_ne _ (by decide) _).trans (h.c2), (fset_ne _ (by decide) _).trans (h.c3), (fset_ne _ (by decide) _).trans (h.c4), (fset_ne _ (by decide) _).trans (h.c5), (fset_ne _ (by decide) _).trans (h.c61), (fset_ne _ (by decide) _).trans (h.c62), (fset_ne _ (by decide) _).trans (h.c63), (fset_ne _ (by decide) _).trans (h.c64), (fset_ne _ (by decide) _).trans (h.c65), (fset_ne _ (by decide) _).trans (h.c66), (fset_ne _ (by decide) _).trans (h.c67), (fset_ne _ (by decide) _).trans (h.c68), fset_eq _ _ _, (fset_ne _ (by decide) _).trans (h.c70), (fset_ne _ (by decide) _).trans (h.c71), (fset_ne _ (by decide) _).trans (h.c72), (fset_ne _ (by decide) _).trans (h.c73), (fset_ne _ (by decide) _).trans (h.c74), fun k hk => by rw [fset_ne _ (by omega)]; exact h.ds k hk, fun k hk => by rw [fset_ne _ (by omega)]; exact h.rg k hk⟩
theorem MF.sKind (h : MF f p K q) (x : Int) : MF (fset f 70 (.int .i64 x)) p K { q with kind := x } :=
  ⟨(fset_ne _ (by decide) _).trans (h.c0), (fset_ne _ (by decide) _).trans (h.c1), (fset_ne _ (by decide) _).trans (h.c2), (fset_ne _ (by decide) _).trans (h.c3), (fset_ne _ (by decide) _).trans (h.c4), (fset_ne _ (by decide) _).trans (h.c5), (fset_ne _ (by decide) _).trans (h.c61), (fset_ne _ (by decide) _).trans (h.c62), (fset_ne _ (by decide) _).trans (h.c63), (fset_ne _ (by decide) _).trans (h.c64), (fset_ne _ (by decide) _).trans (h.c65), (fset_ne _ (by decide) _).trans (h.c66), (fset_ne _ (by decide) _).trans (h.c67), (fset_ne _ (by decide) _).trans (h.c68), (fset_ne _ (by decide) _).trans (h.c69), fset_eq _ _ _, (fset_ne _ (by decide) _).trans (h.c71), (fset_ne _ (by decide) _).trans (h.c72), (fset_ne _ (by decide) _).trans (h.c73), (fset_ne _ (by decide) _).trans (h.c74), fun k hk => by rw [fset_ne _ (by omega)]; exact h.ds k hk, fun k hk => by rw [fset_ne _ (by omega)]; exact h.rg k hk⟩
theorem MF.sVal (h : MF f p K q) (x : Int) : MF (fset f 71 (.int .i64 x)) p K { q with val := x } :=
  ⟨(fset_ne _ (by decide) _).trans (h.c0), (fset_ne _ (by decide) _).trans (h.c1), (fset_ne _ (by decide) _).trans (h.c2), (fset_ne _ (by decide) _).trans (h.c3), (fset_ne _ (by decide) _).trans (h.c4), (fset_ne _ (by decide) _).trans (h.c5), (fset_ne _ (by decide) _).trans (h.c61), (fset_ne _ (by decide) _).trans (h.c62), (fset_ne _ (by decide) _).trans (h.c63), (fset_ne _ (by decide) _).trans (h.c64), (fset_ne _ (by decide) _).trans (h.c65), (fset_ne _ (by decide) _).trans (h.c66), (fset_ne _ (by decide) _).trans (h.c67), (fset_ne _ (by decide) _).trans (h.c68), (fset_ne _ (by decide) _).trans (h.c69), (fset_ne _ (by decide) _).trans (h.c70), fset_eq _ _ _, (fset_ne _ (by decide) _).trans (h.c72), (fset_ne _ (by decide) _).trans (h.c73), (fset_ne _ (by decide) _).trans (h.c74), fun k hk => by rw [fset_ne _ (by omega)]; exact h.ds k hk, fun k hk => by rw [fset_ne _ (by omega)]; exact h.rg k hk⟩
theorem MF.sSteps (h : MF f p K q) (x : Int) : MF (fset f 72 (.int .i64 x)) p K { q with steps := x } :=
  ⟨(fset_ne _ (by decide) _).trans (h.c0), (fset_ne _ (by decide) _).trans (h.c1), (fset_ne _ (by decide) _).trans (h.c2), (fset_ne _ (by decide) _).trans (h.c3), (fset_ne _ (by decide) _).trans (h.c4), (fset_ne _ (by decide) _).trans (h.c5), (fset_ne _ (by decide) _).trans (h.c61), (fset_ne _ (by decide) _).trans (h.c62), (fset_ne _ (by decide) _).trans (h.c63), (fset_ne _ (by decide) _).trans (h.c64), (fset_ne _ (by decide) _).trans (h.c65), (fset_ne _ (by decide) _).trans (h.c66), (fset_ne _ (by decide) _).trans (h.c67), (fset_ne _ (by decide) _).trans (h.c68), (fset_ne _ (by decide) _).trans (h.c69), (fset_ne _ (by decide) _).trans (h.c70), (fset_ne _ (by decide) _).trans (h.c71), fset_eq _ _ _, (fset_ne _ (by decide) _).trans (h.c73), (fset_ne _ (by decide) _).trans (h.c74), fun k hk => by rw [fset_ne _ (by omega)]; exact h.ds k hk, fun k hk => by rw [fset_ne _ (by omega)]; exact h.rg k hk⟩
theorem MF.sDepth (h : MF f p K q) (x : Int) : MF (fset f 74 (.int .i64 x)) p K { q with depth := x } :=
  ⟨(fset_ne _ (by decide) _).trans (h.c0), (fset_ne _ (by decide) _).trans (h.c1), (fset_ne _ (by decide) _).trans (h.c2), (fset_ne _ (by decide) _).trans (h.c3), (fset_ne _ (by decide) _).trans (h.c4), (fset_ne _ (by decide) _).trans (h.c5), (fset_ne _ (by decide) _).trans (h.c61), (fset_ne _ (by decide) _).trans (h.c62), (fset_ne _ (by decide) _).trans (h.c63), (fset_ne _ (by decide) _).trans (h.c64), (fset_ne _ (by decide) _).trans (h.c65), (fset_ne _ (by decide) _).trans (h.c66), (fset_ne _ (by decide) _).trans (h.c67), (fset_ne _ (by decide) _).trans (h.c68), (fset_ne _ (by decide) _).trans (h.c69), (fset_ne _ (by decide) _).trans (h.c70), (fset_ne _ (by decide) _).trans (h.c71), (fset_ne _ (by decide) _).trans (h.c72), (fset_ne _ (by decide) _).trans (h.c73), fset_eq _ _ _, fun k hk => by rw [fset_ne _ (by omega)]; exact h.ds k hk, fun k hk => by rw [fset_ne _ (by omega)]; exact h.rg k hk⟩
theorem MF.sRow (h : MF f p K q) (v : Value) : MF (fset f 61 (v)) { p with row := v } K q :=
  ⟨(fset_ne _ (by decide) _).trans (h.c0), (fset_ne _ (by decide) _).trans (h.c1), (fset_ne _ (by decide) _).trans (h.c2), (fset_ne _ (by decide) _).trans (h.c3), (fset_ne _ (by decide) _).trans (h.c4), (fset_ne _ (by decide) _).trans (h.c5), fset_eq _ _ _, (fset_ne _ (by decide) _).trans (h.c62), (fset_ne _ (by decide) _).trans (h.c63), (fset_ne _ (by decide) _).trans (h.c64), (fset_ne _ (by decide) _).trans (h.c65), (fset_ne _ (by decide) _).trans (h.c66), (fset_ne _ (by decide) _).trans (h.c67), (fset_ne _ (by decide) _).trans (h.c68), (fset_ne _ (by decide) _).trans (h.c69), (fset_ne _ (by decide) _).trans (h.c70), (fset_ne _ (by decide) _).trans (h.c71), (fset_ne _ (by decide) _).trans (h.c72), (fset_ne _ (by decide) _).trans (h.c73), (fset_ne _ (by decide) _).trans (h.c74), fun k hk => by rw [fset_ne _ (by omega)]; exact h.ds k hk, fun k hk => by rw [fset_ne _ (by omega)]; exact h.rg k hk⟩
theorem MF.sCl (h : MF f p K q) (v : Value) (xs : List Int) : MF (fset f 67 (v)) { p with cv := v } K { q with cl := xs } :=
  ⟨(fset_ne _ (by decide) _).trans (h.c0), (fset_ne _ (by decide) _).trans (h.c1), (fset_ne _ (by decide) _).trans (h.c2), (fset_ne _ (by decide) _).trans (h.c3), (fset_ne _ (by decide) _).trans (h.c4), (fset_ne _ (by decide) _).trans (h.c5), (fset_ne _ (by decide) _).trans (h.c61), (fset_ne _ (by decide) _).trans (h.c62), (fset_ne _ (by decide) _).trans (h.c63), (fset_ne _ (by decide) _).trans (h.c64), (fset_ne _ (by decide) _).trans (h.c65), (fset_ne _ (by decide) _).trans (h.c66), fset_eq _ _ _, (fset_ne _ (by decide) _).trans (h.c68), (fset_ne _ (by decide) _).trans (h.c69), (fset_ne _ (by decide) _).trans (h.c70), (fset_ne _ (by decide) _).trans (h.c71), (fset_ne _ (by decide) _).trans (h.c72), (fset_ne _ (by decide) _).trans (h.c73), (fset_ne _ (by decide) _).trans (h.c74), fun k hk => by rw [fset_ne _ (by omega)]; exact h.ds k hk, fun k hk => by rw [fset_ne _ (by omega)]; exact h.rg k hk⟩
theorem MF.sEv (h : MF f p K q) (v : Value) (xs : List (Int × Int)) : MF (fset f 68 (v)) { p with ev := v } K { q with ev := xs } :=
  ⟨(fset_ne _ (by decide) _).trans (h.c0), (fset_ne _ (by decide) _).trans (h.c1), (fset_ne _ (by decide) _).trans (h.c2), (fset_ne _ (by decide) _).trans (h.c3), (fset_ne _ (by decide) _).trans (h.c4), (fset_ne _ (by decide) _).trans (h.c5), (fset_ne _ (by decide) _).trans (h.c61), (fset_ne _ (by decide) _).trans (h.c62), (fset_ne _ (by decide) _).trans (h.c63), (fset_ne _ (by decide) _).trans (h.c64), (fset_ne _ (by decide) _).trans (h.c65), (fset_ne _ (by decide) _).trans (h.c66), (fset_ne _ (by decide) _).trans (h.c67), fset_eq _ _ _, (fset_ne _ (by decide) _).trans (h.c69), (fset_ne _ (by decide) _).trans (h.c70), (fset_ne _ (by decide) _).trans (h.c71), (fset_ne _ (by decide) _).trans (h.c72), (fset_ne _ (by decide) _).trans (h.c73), (fset_ne _ (by decide) _).trans (h.c74), fun k hk => by rw [fset_ne _ (by omega)]; exact h.ds k hk, fun k hk => by rw [fset_ne _ (by omega)]; exact h.rg k hk⟩
theorem MF.sInp (h : MF f p K q) (a : Option Addr) (n : Nat) (xs : List Int) : MF (fset f 3 (.slice a xs.length n)) { p with na := a, nc := n } K { q with inp := xs } :=
  ⟨(fset_ne _ (by decide) _).trans (h.c0), (fset_ne _ (by decide) _).trans (h.c1), (fset_ne _ (by decide) _).trans (h.c2), fset_eq _ _ _, (fset_ne _ (by decide) _).trans (h.c4), (fset_ne _ (by decide) _).trans (h.c5), (fset_ne _ (by decide) _).trans (h.c61), (fset_ne _ (by decide) _).trans (h.c62), (fset_ne _ (by decide) _).trans (h.c63), (fset_ne _ (by decide) _).trans (h.c64), (fset_ne _ (by decide) _).trans (h.c65), (fset_ne _ (by decide) _).trans (h.c66), (fset_ne _ (by decide) _).trans (h.c67), (fset_ne _ (by decide) _).trans (h.c68), (fset_ne _ (by decide) _).trans (h.c69), (fset_ne _ (by decide) _).trans (h.c70), (fset_ne _ (by decide) _).trans (h.c71), (fset_ne _ (by decide) _).trans (h.c72), (fset_ne _ (by decide) _).trans (h.c73), (fset_ne _ (by decide) _).trans (h.c74), fun k hk => by rw [fset_ne _ (by omega)]; exact h.ds k hk, fun k hk => by rw [fset_ne _ (by omega)]; exact h.rg k hk⟩
theorem MF.sReg (h : MF f p K q) (a : Nat) (ha : a < 16) (x : Int) : MF (fset f (45 + a) (.int .i64 x)) p K { q with regs := fun j => if j = (a : Int) then x else q.regs j } :=
  ⟨(fset_ne _ (by omega) _).trans h.c0, (fset_ne _ (by omega) _).trans h.c1, (fset_ne _ (by omega) _).trans h.c2, (fset_ne _ (by omega) _).trans h.c3, (fset_ne _ (by omega) _).trans h.c4, (fset_ne _ (by omega) _).trans h.c5, (fset_ne _ (by omega) _).trans h.c61, (fset_ne _ (by omega) _).trans h.c62, (fset_ne _ (by omega) _).trans h.c63, (fset_ne _ (by omega) _).trans h.c64, (fset_ne _ (by omega) _).trans h.c65, (fset_ne _ (by omega) _).trans h.c66, (fset_ne _ (by omega) _).trans h.c67, (fset_ne _ (by omega) _).trans h.c68, (fset_ne _ (by omega) _).trans h.c69, (fset_ne _ (by omega) _).trans h.c70, (fset_ne _ (by omega) _).trans h.c71, (fset_ne _ (by omega) _).trans h.c72, (fset_ne _ (by omega) _).trans h.c73, (fset_ne _ (by omega) _).trans h.c74, fun k hk => by rw [fset_ne _ (by omega)]; exact h.ds k hk, fun k hk => by
    by_cases he : k = a
    · subst he; rw [fset_eq]; simp
    · rw [fset_ne _ (by omega), h.rg k hk]; simp [show ¬ ((k : Int) = (a : Int)) by omega]⟩
theorem MF.other (h : MF f p K q) (st : Int → Int) (hp : QH) : MF f p K { q with st := st, hp := hp } :=
  ⟨h.c0, h.c1, h.c2, h.c3, h.c4, h.c5, h.c61, h.c62, h.c63, h.c64, h.c65, h.c66, h.c67, h.c68, h.c69, h.c70, h.c71, h.c72, h.c73, h.c74, h.ds, h.rg⟩
end
end Go.Proofs.Ytkjfbojmkkdgoaa
