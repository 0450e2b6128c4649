/- code's bytes: what reads them, as a plain thing. No walk here. code's bytes: what is written reads as the code; what reads is what is written. Plain. -/
import Derived.Test.YtafhjpehkfcmjaaW15
import Derived.Test.YtafhjpehkfcmjaaW16
set_option linter.unusedVariables false
set_option linter.unusedSimpArgs false
namespace Go.Proofs.Ytafhjpehkfcmjaa
open Go.RowKit
/-- The number of bytes, the lowest first. -/
def leN : List UInt8 → Nat
  | [] => 0
  | b :: l => b.toNat + 256 * leN l
theorem leN_snoc (l : List UInt8) (b : UInt8) : leN (l ++ [b]) = leN l + 256 ^ l.length * b.toNat := by
  induction l with
  | nil => simp [leN]
  | cons a l ih =>
    rw [List.cons_append, leN, ih, leN, List.length_cons, Nat.pow_succ]
    rw [Nat.mul_add, Nat.add_assoc]
    congr 2
    rw [← Nat.mul_assoc, Nat.mul_comm 256]
theorem leN_lt (l : List UInt8) : leN l < 256 ^ l.length := by
  induction l with
  | nil => simp [leN]
  | cons a l ih =>
    have := UInt8.toNat_lt a
    rw [leN, List.length_cons, Nat.pow_succ]
    omega
structure Cd where
  ins : List Ins
  fns : List Fn
  main : Nat
/-- A reader: done, or a field of so many bytes, and what it is asked. -/
inductive Pr
  | done (c : Cd)
  | need (n : Nat) (ok : List UInt8 → Prop) (f : List UInt8 → Pr)
inductive Out
  | bad (p : Nat)
  | good (c : Cd)
def slc (B : Nat → UInt8) (at_ n : Nat) : List UInt8 := (List.range n).map fun i => B (at_ + i)
theorem slc_length (B : Nat → UInt8) (a n : Nat) : (slc B a n).length = n := by simp [slc]
theorem slc_succ (B : Nat → UInt8) (a n : Nat) : slc B a (n + 1) = slc B a n ++ [B (a + n)] := by simp [slc, List.range_succ]
theorem slc_add (B : Nat → UInt8) (a n m : Nat) : slc B a (n + m) = slc B a n ++ slc B (a + n) m := by
  induction m with
  | zero => simp [slc]
  | succ m ih => rw [← Nat.add_assoc, slc_succ, ih, slc_succ, List.append_assoc, Nat.add_assoc]
theorem slc_congr {B B' : Nat → UInt8} {a n : Nat} (h : ∀ i, a ≤ i → i < a + n → B i = B' i) : slc B a n = slc B' a n :=
  List.map_congr_left fun i hi => h _ (by omega) (by have := List.mem_range.1 hi; omega)
open Classical in
noncomputable def run (B : Nat → UInt8) (L : Nat) : Pr → Nat → Out
  | .done c, p => if p = L then .good c else .bad p
  | .need n ok f, p => if p + n ≤ L then (if ok (slc B p n) then run B L (f (slc B p n)) (p + n) else .bad p) else .bad L
section
variable {B : Nat → UInt8} {L n p : Nat} {ok : List UInt8 → Prop} {f : List UInt8 → Pr}
theorem run_done (c : Cd) : run B L (.done c) L = .good c := by simp [run]
theorem run_rest (c : Cd) (h : p ≠ L) : run B L (.done c) p = .bad p := by simp [run, h]
theorem run_lack (h : L < p + n) : run B L (.need n ok f) p = .bad L := by rw [run, if_neg (by omega)]
theorem run_wrong (h : p + n ≤ L) (h2 : ¬ ok (slc B p n)) : run B L (.need n ok f) p = .bad p := by rw [run, if_pos h, if_neg h2]
theorem run_step (h : p + n ≤ L) (h2 : ok (slc B p n)) : run B L (.need n ok f) p = run B L (f (slc B p n)) (p + n) := by rw [run, if_pos h, if_pos h2]
end
/-- Each field has a byte at least, 64 at most. -/
def Sm : Pr → Prop
  | .done _ => True
  | .need n ok f => 1 ≤ n ∧ n ≤ 64 ∧ ∀ l, l.length = n → ok l → Sm (f l)
/-- A fault is told within the bytes. -/
theorem run_bad_le {B : Nat → UInt8} {L q : Nat} : ∀ (x : Pr) (p : Nat), p ≤ L → run B L x p = .bad q → p ≤ q ∧ q ≤ L
  | .done c, p, hp, h => by
    by_cases e : p = L
    · subst e; rw [run_done] at h; cases h
    · rw [run_rest c e] at h; cases h; omega
  | .need n ok f, p, hp, h => by
    by_cases h1 : p + n ≤ L
    · by_cases h2 : ok (slc B p n)
      · rw [run_step h1 h2] at h
        have := run_bad_le _ _ h1 h
        omega
      · rw [run_wrong h1 h2] at h; cases h; omega
    · rw [run_lack (by omega)] at h; cases h; omega
/-- What stands 64 bytes behind a fault and farther moves it nowhere. -/
theorem run_bad_near {B B' : Nat → UInt8} {L q : Nat} : ∀ (x : Pr) (p : Nat), Sm x → p ≤ L → run B L x p = .bad q → (∀ i, i < q + 64 → B i = B' i) → run B' L x p = .bad q
  | .done c, p, hs, hp, h, hB => by
    by_cases e : p = L
    · subst e; rw [run_done] at h; cases h
    · rw [run_rest c e] at h ⊢; exact h
  | .need n ok f, p, ⟨hs1, hs2, hs⟩, hp, h, hB => by
    by_cases h1 : p + n ≤ L
    · by_cases h2 : ok (slc B p n)
      · have h0 := h
        rw [run_step h1 h2] at h
        have hq := run_bad_le _ _ h1 h
        have e : slc B p n = slc B' p n := slc_congr fun i _ hi => hB i (by omega)
        have := run_bad_near _ _ (hs _ (slc_length ..) h2) h1 h hB
        rw [run_step h1 (e ▸ h2), ← e]
        exact this
      · rw [run_wrong h1 h2] at h
        have e0 : p = q := by injection h
        have e : slc B p n = slc B' p n := slc_congr fun i _ hi => hB i (by omega)
        rw [run_wrong h1 (e ▸ h2), e0]
    · rw [run_lack (by omega)] at h ⊢; exact h
/-- Bytes that end at the place of a fault lack what comes there (or are code). -/
theorem run_cut {B : Nat → UInt8} {L q : Nat} : ∀ (x : Pr) (p : Nat), Sm x → p ≤ L → run B L x p = .bad q → q < L → run B q x p = .bad q ∨ ∃ c, run B q x p = .good c
  | .done c, p, hs, hp, h, hq => by
    by_cases e : p = L
    · subst e; rw [run_done] at h; cases h
    · rw [run_rest c e] at h; cases h
      exact .inr ⟨c, run_done c⟩
  | .need n ok f, p, ⟨hs1, hs2, hs⟩, hp, h, hq => by
    by_cases h1 : p + n ≤ L
    · by_cases h2 : ok (slc B p n)
      · rw [run_step h1 h2] at h
        have hb := run_bad_le _ _ h1 h
        have := run_cut _ _ (hs _ (slc_length ..) h2) h1 h hq
        rw [run_step hb.1 h2]
        exact this
      · rw [run_wrong h1 h2] at h; cases h
        exact .inl (run_lack (by omega))
    · rw [run_lack (by omega)] at h; cases h; omega
/-- What stands behind a fault moves it nowhere. -/
theorem run_more {B B' : Nat → UInt8} {L L' q : Nat} (hL : L ≤ L') (hB : ∀ i, i < L → B i = B' i) : ∀ (x : Pr) (p : Nat), p ≤ L → run B L x p = .bad q → q < L → run B' L' x p = .bad q
  | .done c, p, hp, h, hq => by
    by_cases e : p = L
    · subst e; rw [run_done] at h; cases h
    · rw [run_rest c e] at h; cases h
      exact run_rest c (by omega)
  | .need n ok f, p, hp, h, hq => by
    by_cases h1 : p + n ≤ L
    · have e : slc B p n = slc B' p n := slc_congr fun i _ hi => hB i (by omega)
      by_cases h2 : ok (slc B p n)
      · rw [run_step h1 h2] at h
        rw [run_step (by omega) (e ▸ h2), ← e]
        exact run_more hL hB _ _ h1 h hq
      · rw [run_wrong h1 h2] at h; cases h
        exact run_wrong (by omega) (e ▸ h2)
    · rw [run_lack (by omega)] at h; cases h; omega
/-- Code with anything behind it is wrong just behind it. -/
theorem run_tail {B B' : Nat → UInt8} {L L' : Nat} {c : Cd} (hL : L < L') (hB : ∀ i, i < L → B i = B' i) : ∀ (x : Pr) (p : Nat), p ≤ L → run B L x p = .good c → run B' L' x p = .bad L
  | .done c', p, hp, h => by
    by_cases e : p = L
    · subst e; exact run_rest c' (by omega)
    · rw [run_rest c' e] at h; cases h
  | .need n ok f, p, hp, h => by
    by_cases h1 : p + n ≤ L
    · have e : slc B p n = slc B' p n := slc_congr fun i _ hi => hB i (by omega)
      by_cases h2 : ok (slc B p n)
      · rw [run_step h1 h2] at h
        rw [run_step (by omega) (e ▸ h2), ← e]
        exact run_tail hL hB _ _ h1 h
      · rw [run_wrong h1 h2] at h; cases h
    · rw [run_lack (by omega)] at h; cases h
/-- Each beginning of code, or of what lacks something at its end alone, lacks what comes at its own end. -/
theorem run_short {B : Nat → UInt8} {L t : Nat} (ht : t < L) : ∀ (x : Pr) (p : Nat), Sm x → p ≤ t → (run B L x p = .bad L ∨ ∃ c, run B L x p = .good c) → run B t x p = .bad t
  | .done c', p, hs, hp, h => by
    rw [run_rest c' (by omega)] at h
    rcases h with h | ⟨c, h⟩ <;> cases h
    omega
  | .need n ok f, p, ⟨hs1, hs2, hs⟩, hp, h => by
    by_cases h0 : p + n ≤ t
    · by_cases h2 : ok (slc B p n)
      · rw [run_step (by omega) h2] at h
        rw [run_step h0 h2]
        exact run_short ht _ _ (hs _ (slc_length ..) h2) h0 h
      · rw [run_wrong (by omega) h2] at h
        rcases h with h | ⟨c, h⟩ <;> cases h
        omega
    · exact run_lack (by omega)
/-! ## code's -/
def pNum (n lo hi : Nat) (k : Nat → Pr) : Pr := .need n (fun l => lo ≤ leN l ∧ leN l ≤ hi) fun l => k (leN l)
def pHead : List UInt8 → Pr → Pr
  | [], k => k
  | b :: l, k => pNum 1 b.toNat b.toNat fun _ => pHead l k
def nameOf (l : List UInt8) : ByteArray := ⟨l.toArray⟩
def firstL : List Fn → Int
  | [] => 0
  | f :: l => f.count + firstL l
theorem firstL_snoc (l : List Fn) (f : Fn) : firstL (l ++ [f]) = firstL l + f.count := by
  induction l with
  | nil => simp [firstL]
  | cons a l ih => rw [List.cons_append, firstL, ih, firstL]; omega
def pFn (m : Nat) (fs : List Fn) (k : Fn → Pr) : Pr :=
  pNum 1 1 64 fun z => .need z (fun l => NameOk (nameOf l) ∧ ∀ f, f ∈ fs → f.name ≠ nameOf l) fun l =>
    pNum 8 2 1099511627776 fun fr => pNum 4 1 4294967295 fun cn => pNum 1 0 (if fs.length = m then 0 else 8) fun pa => k ⟨nameOf l, fr, firstL fs, cn, pa⟩
def pFns (m : Nat) : Nat → List Fn → (List Fn → Pr) → Pr
  | 0, fs, k => k fs
  | r + 1, fs, k => pFn m fs fun f => pFns m r (fs ++ [f]) k
def bnd (nf : Nat) (f : Fn) (op : Nat) : Nat × Nat :=
  if op = 21 ∨ op = 22 ∨ op = 23 then (f.first.toNat, (f.first + f.count - 1).toNat)
  else if op = 24 ∨ op = 25 then (2, (f.frame - 1).toNat)
  else if op = 26 then (0, nf - 1)
  else if op = 32 ∨ op = 33 ∨ op = 34 then (1, 5)
  else if op = 35 then (1, 6)
  else (0, 18446744073709551615)
def pReg (u : Bool) (k : Nat → Pr) : Pr := if u then pNum 1 0 15 k else k 0
def pIn (nf : Nat) (f : Fn) (last : Bool) (k : Ins → Pr) : Pr :=
  .need 1 (fun l => (1 ≤ leN l ∧ leN l ≤ 38) ∧ (last = true → lastOk (leN l : Int) = true)) fun l =>
    pReg (decide (0 < regsOf (leN l))) fun a => pReg (decide (1 < regsOf (leN l))) fun b => pReg (decide (2 < regsOf (leN l))) fun c =>
      if wideOf (leN l) then pNum 8 (bnd nf f (leN l)).1 (bnd nf f (leN l)).2 fun v => k ⟨leN l, a, b, c, IntKind.i64.wrap v⟩ else k ⟨leN l, a, b, c, 0⟩
def pIns (nf : Nat) (f : Fn) : Nat → List Ins → (List Ins → Pr) → Pr
  | 0, xs, k => k xs
  | r + 1, xs, k => pIn nf f (r == 0) fun x => pIns nf f r (xs ++ [x]) k
def pBody (nf : Nat) : List Fn → List Ins → (List Ins → Pr) → Pr
  | [], xs, k => k xs
  | f :: gs, xs, k => pIns nf f f.count.toNat xs fun ys => pBody nf gs ys k
def pAll : Pr := pHead [113, 114, 49, 54] (pNum 4 1 4294967295 fun n => pNum 4 0 (n - 1) fun m => pFns m n [] fun fs => pBody fs.length fs [] fun xs => .done ⟨xs, fs, m⟩)
theorem Sm_num {n lo hi : Nat} {k : Nat → Pr} (h1 : 1 ≤ n) (h2 : n ≤ 64) (h : ∀ v, lo ≤ v → v ≤ hi → Sm (k v)) : Sm (pNum n lo hi k) := ⟨h1, h2, fun l _ hl => h _ hl.1 hl.2⟩
theorem Sm_head : ∀ (l : List UInt8) (k : Pr), Sm k → Sm (pHead l k)
  | [], k, h => h
  | b :: l, k, h => Sm_num (by omega) (by omega) fun _ _ _ => Sm_head l k h
theorem Sm_fn {m : Nat} {fs : List Fn} {k : Fn → Pr} (h : ∀ f, Sm (k f)) : Sm (pFn m fs k) :=
  Sm_num (by omega) (by omega) fun z h1 h2 => ⟨h1, h2, fun l _ _ => Sm_num (by omega) (by omega) fun _ _ _ => Sm_num (by omega) (by omega) fun _ _ _ => Sm_num (by omega) (by omega) fun _ _ _ => h _⟩
theorem Sm_fns {m : Nat} {k : List Fn → Pr} (h : ∀ fs, Sm (k fs)) : ∀ r fs, Sm (pFns m r fs k)
  | 0, fs => h fs
  | r + 1, fs => Sm_fn fun f => Sm_fns h r _
theorem Sm_reg {u : Bool} {k : Nat → Pr} (h : ∀ v, Sm (k v)) : Sm (pReg u k) := by
  cases u
  · exact h 0
  · exact Sm_num (by omega) (by omega) fun v _ _ => h v
theorem Sm_in {nf : Nat} {f : Fn} {last : Bool} {k : Ins → Pr} (h : ∀ x, Sm (k x)) : Sm (pIn nf f last k) := by
  refine ⟨by omega, by omega, fun l _ _ => Sm_reg fun a => Sm_reg fun b => Sm_reg fun c => ?_⟩
  split
  · exact Sm_num (by omega) (by omega) fun _ _ _ => h _
  · exact h _
theorem Sm_ins {nf : Nat} {f : Fn} {k : List Ins → Pr} (h : ∀ xs, Sm (k xs)) : ∀ r xs, Sm (pIns nf f r xs k)
  | 0, xs => h xs
  | r + 1, xs => Sm_in fun x => Sm_ins h r _
theorem Sm_body {nf : Nat} {k : List Ins → Pr} (h : ∀ xs, Sm (k xs)) : ∀ gs xs, Sm (pBody nf gs xs k)
  | [], xs => h xs
  | f :: gs, xs => Sm_ins (fun ys => Sm_body h gs ys) _ _
theorem Sm_all : Sm pAll := by
  refine Sm_head _ _ (Sm_num (by omega) (by omega) fun n _ _ => Sm_num (by omega) (by omega) fun m _ _ => Sm_fns (fun fs => Sm_body (fun xs => ?_) _ _) _ _)
  trivial
end Go.Proofs.Ytafhjpehkfcmjaa
namespace Go.Proofs.Ytafhjpehkfcmjaa
open Go.RowKit
/-! ### numbers -/
theorem leN_lowB (v : Int) : ∀ k, leN (lowB v k) = (IntKind.u64.wrap v).toNat % 256 ^ k
  | 0 => by simp [lowB, leN, Nat.mod_one]
  | k + 1 => by rw [lowB, leN_snoc, leN_lowB v k, lowB_length, byteOf_nat, Nat.mod_pow_succ]
theorem leN_inj : ∀ (l m : List UInt8), l.length = m.length → leN l = leN m → l = m
  | [], [], _, _ => rfl
  | [], _ :: _, h, _ => by simp at h
  | _ :: _, [], h, _ => by simp at h
  | a :: l, b :: m, h, e => by
    rw [leN, leN] at e
    have h1 := UInt8.toNat_lt a
    have h2 := UInt8.toNat_lt b
    have ha : a.toNat = b.toNat := by omega
    rw [UInt8.toNat_inj.1 ha, leN_inj l m (by simpa using h) (by omega)]
theorem wrap_nat {v : Nat} (h : v < 18446744073709551616) : (IntKind.u64.wrap (v : Int)).toNat = v := by
  simp [IntKind.wrap, IntKind.signed, IntKind.bits]; omega
theorem pow256_le {n : Nat} (h : n ≤ 8) : 256 ^ n ≤ 18446744073709551616 := Nat.le_trans (Nat.pow_le_pow_right (by omega) h) (by decide)
theorem leN_low {v n : Nat} (hn : n ≤ 8) (h : v < 256 ^ n) : leN (lowB (v : Int) n) = v := by
  have := pow256_le hn
  rw [leN_lowB, wrap_nat (by omega), Nat.mod_eq_of_lt h]
theorem low_leN {l : List UInt8} (hl : l.length ≤ 8) : lowB (leN l : Int) l.length = l := by
  have h := leN_lt l
  exact leN_inj _ _ (lowB_length ..) (leN_low hl h)
theorem lowB_wrap (v : Int) (n : Nat) : lowB (IntKind.i64.wrap (IntKind.u64.wrap v)) n = lowB v n := by
  have e : IntKind.u64.wrap (IntKind.i64.wrap (IntKind.u64.wrap v)) = IntKind.u64.wrap v := by
    simp [IntKind.wrap, IntKind.signed, IntKind.bits]
    split <;> omega
  have : ∀ k, byteOf (IntKind.i64.wrap (IntKind.u64.wrap v)) k = byteOf v k := fun k => by unfold byteOf; rw [e]
  induction n with
  | zero => rfl
  | succ n ih => rw [lowB, ih, this, lowB]
theorem wrap_i64 {v : Int} (h : i64in v) : IntKind.i64.wrap v = v := by
  obtain ⟨h1, h2⟩ := h
  simp [IntKind.wrap, IntKind.signed, IntKind.bits]
  omega
theorem wrap_back {v : Int} (h : i64in v) : IntKind.i64.wrap (((IntKind.u64.wrap v).toNat : Nat) : Int) = v := by
  obtain ⟨h1, h2⟩ := h
  simp [IntKind.wrap, IntKind.signed, IntKind.bits]
  omega
theorem lowB_u64 (v : Int) (n : Nat) : lowB (((IntKind.u64.wrap v).toNat : Nat) : Int) n = lowB v n := by
  have e : IntKind.u64.wrap (((IntKind.u64.wrap v).toNat : Nat) : Int) = IntKind.u64.wrap v := by
    simp [IntKind.wrap, IntKind.signed, IntKind.bits]; omega
  have : ∀ k, byteOf (((IntKind.u64.wrap v).toNat : Nat) : Int) k = byteOf v k := fun k => by unfold byteOf; rw [e]
  induction n with
  | zero => rfl
  | succ n ih => rw [lowB, ih, this, lowB]
theorem wrap_in (v : Int) : i64in (IntKind.i64.wrap v) := by
  constructor <;> simp [IntKind.wrap, IntKind.signed, IntKind.bits] <;> omega
theorem low1 (v : Int) : lowB v 1 = [u8 v] := by
  show [byteOf v 0] = [u8 v]
  congr 1
  apply UInt8.toNat_inj.1
  have h1 := byteOf_int v 0
  have h2 := u8_int v
  have : IntKind.u64.wrap v % 256 = v % 256 := by simp [IntKind.wrap, IntKind.signed, IntKind.bits]
  simp at h1
  omega
theorem u8_eq {a b : Int} (ha : 0 ≤ a) (ha2 : a < 256) (hb : 0 ≤ b) (hb2 : b < 256) (h : u8 a = u8 b) : a = b := by
  have h1 := u8_int a
  have h2 := u8_int b
  rw [h] at h1
  omega
/-! ### bytes at a place -/
def At (B : Nat → UInt8) (L p : Nat) (l : List UInt8) : Prop := p + l.length ≤ L ∧ slc B p l.length = l
theorem At.append {B : Nat → UInt8} {L p : Nat} {l m : List UInt8} : At B L p (l ++ m) ↔ At B L p l ∧ At B L (p + l.length) m := by
  unfold At
  rw [List.length_append, slc_add]
  constructor
  · rintro ⟨h1, h2⟩
    obtain ⟨h3, h4⟩ := List.append_inj h2 (slc_length ..)
    exact ⟨⟨by omega, h3⟩, by omega, h4⟩
  · rintro ⟨⟨h1, h2⟩, h3, h4⟩
    exact ⟨by omega, by rw [h2, h4]⟩
theorem At.nil {B : Nat → UInt8} {L p : Nat} (h : p ≤ L) : At B L p [] := ⟨h, rfl⟩
theorem At.cons {B : Nat → UInt8} {L p : Nat} {b : UInt8} {m : List UInt8} : At B L p (b :: m) ↔ At B L p [b] ∧ At B L (p + 1) m := At.append (l := [b])
section
variable {B : Nat → UInt8} {L p : Nat} {c : Cd}
theorem run_num {n lo hi v : Nat} {k : Nat → Pr} (h : At B L p (lowB (v : Int) n)) (hn : n ≤ 8) (hv : v < 256 ^ n) (h1 : lo ≤ v) (h2 : v ≤ hi) : run B L (pNum n lo hi k) p = run B L (k v) (p + n) := by
  obtain ⟨h3, h4⟩ := h
  rw [lowB_length] at h3 h4
  have e : leN (slc B p n) = v := by rw [h4]; exact leN_low hn hv
  unfold pNum
  rw [run_step h3 (by rw [e]; exact ⟨h1, h2⟩), e]
theorem num_run {n lo hi : Nat} {k : Nat → Pr} (hn : n ≤ 8) (h : run B L (pNum n lo hi k) p = .good c) : ∃ v : Nat, lo ≤ v ∧ v ≤ hi ∧ v < 256 ^ n ∧ At B L p (lowB (v : Int) n) ∧ run B L (k v) (p + n) = .good c := by
  unfold pNum at h
  by_cases h1 : p + n ≤ L
  · by_cases h2 : lo ≤ leN (slc B p n) ∧ leN (slc B p n) ≤ hi
    · rw [run_step h1 h2] at h
      have hl := leN_lt (slc B p n)
      have e := low_leN (l := slc B p n) (by rw [slc_length]; exact hn)
      rw [slc_length] at hl e
      exact ⟨_, h2.1, h2.2, hl, ⟨by rw [lowB_length]; exact h1, by rw [lowB_length]; exact e.symm⟩, h⟩
    · rw [run_wrong h1 h2] at h; cases h
  · rw [run_lack (by omega)] at h; cases h
theorem run_head {k : Pr} : ∀ (l : List UInt8) (p : Nat), At B L p l → run B L (pHead l k) p = run B L k (p + l.length)
  | [], p, _ => rfl
  | b :: l, p, h => by
    obtain ⟨h1, h2⟩ := At.cons.1 h
    have hb := UInt8.toNat_lt b
    have e : lowB (b.toNat : Int) 1 = [b] := by
      rw [low1]
      congr 1
      apply UInt8.toNat_inj.1
      have := u8_int b.toNat
      omega
    rw [pHead, run_num (v := b.toNat) (by rw [e]; exact h1) (by omega) (by simpa using hb) (Nat.le_refl _) (Nat.le_refl _), run_head l _ h2, List.length_cons]
    congr 1
    omega
theorem head_run {k : Pr} : ∀ (l : List UInt8) (p : Nat), p ≤ L → run B L (pHead l k) p = .good c → At B L p l ∧ run B L k (p + l.length) = .good c
  | [], p, hp, h => ⟨At.nil hp, h⟩
  | b :: l, p, hp, h => by
    rw [pHead] at h
    obtain ⟨v, h1, h2, h3, h4, h5⟩ := num_run (by omega) h
    obtain rfl : v = b.toNat := by omega
    have e : lowB (b.toNat : Int) 1 = [b] := by
      rw [low1]
      congr 1
      apply UInt8.toNat_inj.1
      have := u8_int b.toNat
      have := UInt8.toNat_lt b
      omega
    rw [e] at h4
    obtain ⟨h6, h7⟩ := head_run l _ (by have := h4.1; simpa using this) h5
    refine ⟨At.cons.2 ⟨h4, h6⟩, ?_⟩
    rw [← h7, List.length_cons]
    congr 1
    omega
/-! ### an instruction -/
theorem op_cases {op : Nat} (h1 : 1 ≤ op) (h2 : op ≤ 38) : (usesOf (op : Int)).2 = true ∧ useBit op 1 = decide (0 < regsOf op) ∧ useBit op 2 = decide (1 < regsOf op) ∧ useBit op 4 = decide (2 < regsOf op) ∧ useBit op 8 = wideOf op := by
  have h : ∀ j : Fin 39, 1 ≤ j.1 → (usesOf (j.1 : Int)).2 = true ∧ useBit (j.1 : Int) 1 = decide (0 < regsOf (j.1 : Int)) ∧ useBit (j.1 : Int) 2 = decide (1 < regsOf (j.1 : Int)) ∧ useBit (j.1 : Int) 4 = decide (2 < regsOf (j.1 : Int)) ∧ useBit (j.1 : Int) 8 = wideOf (j.1 : Int) := by decide
  exact h ⟨op, by omega⟩ h1
theorem uses_in {op : Int} (h : (usesOf op).2 = true) : ∃ k : Nat, op = k ∧ 1 ≤ k ∧ k ≤ 38 := by
  rw [← opIn_uses] at h
  unfold opIn at h
  simp at h
  obtain ⟨k, rfl⟩ := Int.eq_ofNat_of_zero_le (show 0 ≤ op by omega)
  exact ⟨k, rfl, by omega, by omega⟩
theorem field_used {n : Int} {u : Bool} (h : fieldOk n u = true) : ∃ k : Nat, n = k ∧ k ≤ 15 ∧ (u = false → k = 0) := by
  unfold fieldOk at h
  cases u <;> simp at h
  · exact ⟨0, by omega, by omega, fun _ => rfl⟩
  · obtain ⟨k, rfl⟩ := Int.eq_ofNat_of_zero_le (show 0 ≤ n by omega)
    exact ⟨k, rfl, by omega, fun h => by cases h⟩
theorem used_field {k : Nat} {u : Bool} (h : k ≤ 15) (hu : u = false → k = 0) : fieldOk (k : Int) u = true := by
  unfold fieldOk
  cases u
  · rw [hu rfl]; rfl
  · by_cases e : k = 0
    · subst e; rfl
    · simp; omega
end
end Go.Proofs.Ytafhjpehkfcmjaa
