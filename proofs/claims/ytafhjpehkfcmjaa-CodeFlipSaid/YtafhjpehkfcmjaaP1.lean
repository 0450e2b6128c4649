/- code's bytes: what reads them, as a plain thing. No walk here. -/
import Derived.Test.YtafhjpehkfcmjaaW15
set_option linter.unusedVariables false
set_option linter.unusedSimpArgs false
namespace Go.Proofs.Ytafhjpehkfcmjaa
open Go.RowKit
/-- The number of bytes, the lowest first. -/
def leN : List UInt8 → Nat
  | [] => 0
  | b :: l => b.toNat + 256 * leN l
theorem leN_snoc (l : List UInt8) (b : UInt8) : leN (l ++ [b]) = leN l + 256 ^ l.length * b.toNat := by
  induction l with
  | nil => simp [leN]
  | cons a l ih =>
    rw [List.cons_append, leN, ih, leN, List.length_cons, Nat.pow_succ]
    rw [Nat.mul_add, Nat.add_assoc]
    congr 2
    rw [← Nat.mul_assoc, Nat.mul_comm 256]
theorem leN_lt (l : List UInt8) : leN l < 256 ^ l.length := by
  induction l with
  | nil => simp [leN]
  | cons a l ih =>
    have := UInt8.toNat_lt a
    rw [leN, List.length_cons, Nat.pow_succ]
    omega
structure Cd where
  ins : List Ins
  fns : List Fn
  main : Nat
/-- A reader: done, or a field of so many bytes, and what it is asked. -/
inductive Pr
  | done (c : Cd)
  | need (n : Nat) (ok : List UInt8 → Prop) (f : List UInt8 → Pr)
inductive Out
  | bad (p : Nat)
  | good (c : Cd)
def slc (B : Nat → UInt8) (at_ n : Nat) : List UInt8 := (List.range n).map fun i => B (at_ + i)
theorem slc_length (B : Nat → UInt8) (a n : Nat) : (slc B a n).length = n := by simp [slc]
theorem slc_succ (B : Nat → UInt8) (a n : Nat) : slc B a (n + 1) = slc B a n ++ [B (a + n)] := by simp [slc, List.range_succ]
theorem slc_add (B : Nat → UInt8) (a n m : Nat) : slc B a (n + m) = slc B a n ++ slc B (a + n) m := by
  induction m with
  | zero => simp [slc]
  | succ m ih => rw [← Nat.add_assoc, slc_succ, ih, slc_succ, List.append_assoc, Nat.add_assoc]
theorem slc_congr {B B' : Nat → UInt8} {a n : Nat} (h : ∀ i, a ≤ i → i < a + n → B i = B' i) : slc B a n = slc B' a n :=
  List.map_congr_left fun i hi => h _ (by omega) (by have := List.mem_range.1 hi; omega)
open Classical in
noncomputable def run (B : Nat → UInt8) (L : Nat) : Pr → Nat → Out
  | .done c, p => if p = L then .good c else .bad p
  | .need n ok f, p => if p + n ≤ L then (if ok (slc B p n) then run B L (f (slc B p n)) (p + n) else .bad p) else .bad L
section
variable {B : Nat → UInt8} {L n p : Nat} {ok : List UInt8 → Prop} {f : List UInt8 → Pr}
theorem run_done (c : Cd) : run B L (.done c) L = .good c := by simp [run]
theorem run_rest (c : Cd) (h : p ≠ L) : run B L (.done c) p = .bad p := by simp [run, h]
theorem run_lack (h : L < p + n) : run B L (.need n ok f) p = .bad L := by rw [run, if_neg (by omega)]
theorem run_wrong (h : p + n ≤ L) (h2 : ¬ ok (slc B p n)) : run B L (.need n ok f) p = .bad p := by rw [run, if_pos h, if_neg h2]
theorem run_step (h : p + n ≤ L) (h2 : ok (slc B p n)) : run B L (.need n ok f) p = run B L (f (slc B p n)) (p + n) := by rw [run, if_pos h, if_pos h2]
end
/-- Each field has a byte at least, 64 at most. -/
def Sm : Pr → Prop
  | .done _ => True
  | .need n ok f => 1 ≤ n ∧ n ≤ 64 ∧ ∀ l, l.length = n → ok l → Sm (f l)
/-- A fault is told within the bytes. -/
theorem run_bad_le {B : Nat → UInt8} {L q : Nat} : ∀ (x : Pr) (p : Nat), p ≤ L → run B L x p = .bad q → p ≤ q ∧ q ≤ L
  | .done c, p, hp, h => by
    by_cases e : p = L
    · subst e; rw [run_done] at h; cases h
    · rw [run_rest c e] at h; cases h; omega
  | .need n ok f, p, hp, h => by
    by_cases h1 : p + n ≤ L
    · by_cases h2 : ok (slc B p n)
      · rw [run_step h1 h2] at h
        have := run_bad_le _ _ h1 h
        omega
      · rw [run_wrong h1 h2] at h; cases h; omega
    · rw [run_lack (by omega)] at h; cases h; omega
/-- What stands 64 bytes behind a fault and farther moves it nowhere. -/
theorem run_bad_near {B B' : Nat → UInt8} {L q : Nat} : ∀ (x : Pr) (p : Nat), Sm x → p ≤ L → run B L x p = .bad q → (∀ i, i < q + 64 → B i = B' i) → run B' L x p = .bad q
  | .done c, p, hs, hp, h, hB => by
    by_cases e : p = L
    · subst e; rw [run_done] at h; cases h
    · rw [run_rest c e] at h ⊢; exact h
  | .need n ok f, p, ⟨hs1, hs2, hs⟩, hp, h, hB => by
    by_cases h1 : p + n ≤ L
    · by_cases h2 : ok (slc B p n)
      · have h0 := h
        rw [run_step h1 h2] at h
        have hq := run_bad_le _ _ h1 h
        have e : slc B p n = slc B' p n := slc_congr fun i _ hi => hB i (by omega)
        have := run_bad_near _ _ (hs _ (slc_length ..) h2) h1 h hB
        rw [run_step h1 (e ▸ h2), ← e]
        exact this
      · rw [run_wrong h1 h2] at h
        have e0 : p = q := by injection h
        have e : slc B p n = slc B' p n := slc_congr fun i _ hi => hB i (by omega)
        rw [run_wrong h1 (e ▸ h2), e0]
    · rw [run_lack (by omega)] at h ⊢; exact h
/-- Bytes that end at the place of a fault lack what comes there (or are code). -/
theorem run_cut {B : Nat → UInt8} {L q : Nat} : ∀ (x : Pr) (p : Nat), Sm x → p ≤ L → run B L x p = .bad q → q < L → run B q x p = .bad q ∨ ∃ c, run B q x p = .good c
  | .done c, p, hs, hp, h, hq => by
    by_cases e : p = L
    · subst e; rw [run_done] at h; cases h
    · rw [run_rest c e] at h; cases h
      exact .inr ⟨c, run_done c⟩
  | .need n ok f, p, ⟨hs1, hs2, hs⟩, hp, h, hq => by
    by_cases h1 : p + n ≤ L
    · by_cases h2 : ok (slc B p n)
      · rw [run_step h1 h2] at h
        have hb := run_bad_le _ _ h1 h
        have := run_cut _ _ (hs _ (slc_length ..) h2) h1 h hq
        rw [run_step hb.1 h2]
        exact this
      · rw [run_wrong h1 h2] at h; cases h
        exact .inl (run_lack (by omega))
    · rw [run_lack (by omega)] at h; cases h; omega
/-- What stands behind a fault moves it nowhere. -/
theorem run_more {B B' : Nat → UInt8} {L L' q : Nat} (hL : L ≤ L') (hB : ∀ i, i < L → B i = B' i) : ∀ (x : Pr) (p : Nat), p ≤ L → run B L x p = .bad q → q < L → run B' L' x p = .bad q
  | .done c, p, hp, h, hq => by
    by_cases e : p = L
    · subst e; rw [run_done] at h; cases h
    · rw [run_rest c e] at h; cases h
      exact run_rest c (by omega)
  | .need n ok f, p, hp, h, hq => by
    by_cases h1 : p + n ≤ L
    · have e : slc B p n = slc B' p n := slc_congr fun i _ hi => hB i (by omega)
      by_cases h2 : ok (slc B p n)
      · rw [run_step h1 h2] at h
        rw [run_step (by omega) (e ▸ h2), ← e]
        exact run_more hL hB _ _ h1 h hq
      · rw [run_wrong h1 h2] at h; cases h
        exact run_wrong (by omega) (e ▸ h2)
    · rw [run_lack (by omega)] at h; cases h; omega
/-- Code with anything behind it is wrong just behind it. -/
theorem run_tail {B B' : Nat → UInt8} {L L' : Nat} {c : Cd} (hL : L < L') (hB : ∀ i, i < L → B i = B' i) : ∀ (x : Pr) (p : Nat), p ≤ L → run B L x p = .good c → run B' L' x p = .bad L
  | .done c', p, hp, h => by
    by_cases e : p = L
    · subst e; exact run_rest c' (by omega)
    · rw [run_rest c' e] at h; cases h
  | .need n ok f, p, hp, h => by
    by_cases h1 : p + n ≤ L
    · have e : slc B p n = slc B' p n := slc_congr fun i _ hi => hB i (by omega)
      by_cases h2 : ok (slc B p n)
      · rw [run_step h1 h2] at h
        rw [run_step (by omega) (e ▸ h2), ← e]
        exact run_tail hL hB _ _ h1 h
      · rw [run_wrong h1 h2] at h; cases h
    · rw [run_lack (by omega)] at h; cases h
/-- Each beginning of code, or of what lacks something at its end alone, lacks what comes at its own end. -/
theorem run_short {B : Nat → UInt8} {L t : Nat} (ht : t < L) : ∀ (x : Pr) (p : Nat), Sm x → p ≤ t → (run B L x p = .bad L ∨ ∃ c, run B L x p = .good c) → run B t x p = .bad t
  | .done c', p, hs, hp, h => by
    rw [run_rest c' (by omega)] at h
    rcases h with h | ⟨c, h⟩ <;> cases h
    omega
  | .need n ok f, p, ⟨hs1, hs2, hs⟩, hp, h => by
    by_cases h0 : p + n ≤ t
    · by_cases h2 : ok (slc B p n)
      · rw [run_step (by omega) h2] at h
        rw [run_step h0 h2]
        exact run_short ht _ _ (hs _ (slc_length ..) h2) h0 h
      · rw [run_wrong (by omega) h2] at h
        rcases h with h | ⟨c, h⟩ <;> cases h
        omega
    · exact run_lack (by omega)
/-! ## code's -/
def pNum (n lo hi : Nat) (k : Nat → Pr) : Pr := .need n (fun l => lo ≤ leN l ∧ leN l ≤ hi) fun l => k (leN l)
def pHead : List UInt8 → Pr → Pr
  | [], k => k
  | b :: l, k => pNum 1 b.toNat b.toNat fun _ => pHead l k
def nameOf (l : List UInt8) : ByteArray := ⟨l.toArray⟩
def firstL : List Fn → Int
  | [] => 0
  | f :: l => f.count + firstL l
theorem firstL_snoc (l : List Fn) (f : Fn) : firstL (l ++ [f]) = firstL l + f.count := by
  induction l with
  | nil => simp [firstL]
  | cons a l ih => rw [List.cons_append, firstL, ih, firstL]; omega
def pFn (m : Nat) (fs : List Fn) (k : Fn → Pr) : Pr :=
  pNum 1 1 64 fun z => .need z (fun l => NameOk (nameOf l) ∧ ∀ f, f ∈ fs → f.name ≠ nameOf l) fun l =>
    pNum 8 2 1099511627776 fun fr => pNum 4 1 4294967295 fun cn => pNum 1 0 (if fs.length = m then 0 else 8) fun pa => k ⟨nameOf l, fr, firstL fs, cn, pa⟩
def pFns (m : Nat) : Nat → List Fn → (List Fn → Pr) → Pr
  | 0, fs, k => k fs
  | r + 1, fs, k => pFn m fs fun f => pFns m r (fs ++ [f]) k
def bnd (nf : Nat) (f : Fn) (op : Nat) : Nat × Nat :=
  if op = 21 ∨ op = 22 ∨ op = 23 then (f.first.toNat, (f.first + f.count - 1).toNat)
  else if op = 24 ∨ op = 25 then (2, (f.frame - 1).toNat)
  else if op = 26 then (0, nf - 1)
  else if op = 32 ∨ op = 33 ∨ op = 34 then (1, 5)
  else if op = 35 then (1, 6)
  else (0, 18446744073709551615)
def pReg (u : Bool) (k : Nat → Pr) : Pr := if u then pNum 1 0 15 k else k 0
def pIn (nf : Nat) (f : Fn) (last : Bool) (k : Ins → Pr) : Pr :=
  .need 1 (fun l => (1 ≤ leN l ∧ leN l ≤ 38) ∧ (last = true → lastOk (leN l : Int) = true)) fun l =>
    pReg (decide (0 < regsOf (leN l))) fun a => pReg (decide (1 < regsOf (leN l))) fun b => pReg (decide (2 < regsOf (leN l))) fun c =>
      if wideOf (leN l) then pNum 8 (bnd nf f (leN l)).1 (bnd nf f (leN l)).2 fun v => k ⟨leN l, a, b, c, IntKind.i64.wrap v⟩ else k ⟨leN l, a, b, c, 0⟩
def pIns (nf : Nat) (f : Fn) : Nat → List Ins → (List Ins → Pr) → Pr
  | 0, xs, k => k xs
  | r + 1, xs, k => pIn nf f (r == 0) fun x => pIns nf f r (xs ++ [x]) k
def pBody (nf : Nat) : List Fn → List Ins → (List Ins → Pr) → Pr
  | [], xs, k => k xs
  | f :: gs, xs, k => pIns nf f f.count.toNat xs fun ys => pBody nf gs ys k
def pAll : Pr := pHead [113, 114, 49, 54] (pNum 4 1 4294967295 fun n => pNum 4 0 (n - 1) fun m => pFns m n [] fun fs => pBody fs.length fs [] fun xs => .done ⟨xs, fs, m⟩)
theorem Sm_num {n lo hi : Nat} {k : Nat → Pr} (h1 : 1 ≤ n) (h2 : n ≤ 64) (h : ∀ v, lo ≤ v → v ≤ hi → Sm (k v)) : Sm (pNum n lo hi k) := ⟨h1, h2, fun l _ hl => h _ hl.1 hl.2⟩
theorem Sm_head : ∀ (l : List UInt8) (k : Pr), Sm k → Sm (pHead l k)
  | [], k, h => h
  | b :: l, k, h => Sm_num (by omega) (by omega) fun _ _ _ => Sm_head l k h
theorem Sm_fn {m : Nat} {fs : List Fn} {k : Fn → Pr} (h : ∀ f, Sm (k f)) : Sm (pFn m fs k) :=
  Sm_num (by omega) (by omega) fun z h1 h2 => ⟨h1, h2, fun l _ _ => Sm_num (by omega) (by omega) fun _ _ _ => Sm_num (by omega) (by omega) fun _ _ _ => Sm_num (by omega) (by omega) fun _ _ _ => h _⟩
theorem Sm_fns {m : Nat} {k : List Fn → Pr} (h : ∀ fs, Sm (k fs)) : ∀ r fs, Sm (pFns m r fs k)
  | 0, fs => h fs
  | r + 1, fs => Sm_fn fun f => Sm_fns h r _
theorem Sm_reg {u : Bool} {k : Nat → Pr} (h : ∀ v, Sm (k v)) : Sm (pReg u k) := by
  cases u
  · exact h 0
  · exact Sm_num (by omega) (by omega) fun v _ _ => h v
theorem Sm_in {nf : Nat} {f : Fn} {last : Bool} {k : Ins → Pr} (h : ∀ x, Sm (k x)) : Sm (pIn nf f last k) := by
  refine ⟨by omega, by omega, fun l _ _ => Sm_reg fun a => Sm_reg fun b => Sm_reg fun c => ?_⟩
  split
  · exact Sm_num (by omega) (by omega) fun _ _ _ => h _
  · exact h _
theorem Sm_ins {nf : Nat} {f : Fn} {k : List Ins → Pr} (h : ∀ xs, Sm (k xs)) : ∀ r xs, Sm (pIns nf f r xs k)
  | 0, xs => h xs
  | r + 1, xs => Sm_in fun x => Sm_ins h r _
theorem Sm_body {nf : Nat} {k : List Ins → Pr} (h : ∀ xs, Sm (k xs)) : ∀ gs xs, Sm (pBody nf gs xs k)
  | [], xs => h xs
  | f :: gs, xs => Sm_ins (fun ys => Sm_body h gs ys) _ _
theorem Sm_all : Sm pAll := by
  refine Sm_head _ _ (Sm_num (by omega) (by omega) fun n _ _ => Sm_num (by omega) (by omega) fun m _ _ => Sm_fns (fun fs => Sm_body (fun xs => ?_) _ _) _ _)
  trivial
end Go.Proofs.Ytafhjpehkfcmjaa
