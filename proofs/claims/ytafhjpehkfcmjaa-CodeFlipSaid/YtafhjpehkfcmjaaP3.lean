/- code's bytes: what is written reads as the code. Plain. -/
import Derived.Test.YtafhjpehkfcmjaaW28
set_option linter.unusedVariables false
set_option linter.unusedSimpArgs false
namespace Go.Proofs.Ytafhjpehkfcmjaa
open Go.RowKit
def tabX (X : Nat → Ins) (n : Nat) : List Ins := (List.range n).map X
def tabF (Fs : Nat → Fn) (n : Nat) : List Fn := (List.range n).map Fs
theorem tabX_succ (X : Nat → Ins) (n : Nat) : tabX X (n + 1) = tabX X n ++ [X n] := by simp [tabX, List.range_succ]
theorem tabF_succ (Fs : Nat → Fn) (n : Nat) : tabF Fs (n + 1) = tabF Fs n ++ [Fs n] := by simp [tabF, List.range_succ]
theorem tabF_length (Fs : Nat → Fn) (n : Nat) : (tabF Fs n).length = n := by simp [tabF]
theorem tabX_length (X : Nat → Ins) (n : Nat) : (tabX X n).length = n := by simp [tabX]
theorem firstL_tab (Fs : Nat → Fn) : ∀ n, firstL (tabF Fs n) = firstOf Fs n
  | 0 => rfl
  | n + 1 => by rw [tabF_succ, firstL_snoc, firstL_tab Fs n, firstOf]
theorem tabF_drop (Fs : Nat → Fn) {k n : Nat} (h : k < n) : (tabF Fs n).drop k = Fs k :: (tabF Fs n).drop (k + 1) := by
  rw [List.drop_eq_getElem_cons (by rw [tabF_length]; exact h)]
  congr 1
  simp [tabF]
theorem firstOf_nn {ni : Nat} {X : Nat → Ins} {nf : Nat} {Fs : Nat → Fn} (h : ∀ k, k < nf → OneOk ni X nf Fs k) : ∀ k, k ≤ nf → 0 ≤ firstOf Fs k
  | 0, _ => Int.le_refl _
  | k + 1, hk => by
    have := firstOf_nn h k (by omega)
    have := (h k (by omega)).2.1
    rw [firstOf]; omega
theorem firstOf_mono {ni : Nat} {X : Nat → Ins} {nf : Nat} {Fs : Nat → Fn} (h : ∀ k, k < nf → OneOk ni X nf Fs k) {k : Nat} (hk : k < nf) : firstOf Fs (k + 1) ≤ firstOf Fs nf := by
  obtain ⟨d, hd⟩ : ∃ d, nf = k + 1 + d := ⟨nf - (k + 1), by omega⟩
  have key : ∀ d, k + 1 + d ≤ nf → firstOf Fs (k + 1) ≤ firstOf Fs (k + 1 + d) := by
    intro d
    induction d with
    | zero => intro _; exact Int.le_refl _
    | succ d ih =>
      intro hd
      have := ih (by omega)
      have := (h (k + 1 + d) (by omega)).2.1
      have e : firstOf Fs (k + 1 + (d + 1)) = firstOf Fs (k + 1 + d) + (Fs (k + 1 + d)).count := rfl
      omega
  have := key d (by omega)
  rw [hd]; exact this
theorem nat_of {x : Int} (h : 0 ≤ x) : ∃ n : Nat, x = (n : Int) := Int.eq_ofNat_of_zero_le h
theorem u64_lt (n : Int) : (IntKind.u64.wrap n).toNat < 18446744073709551616 := by
  simp [IntKind.wrap, IntKind.signed, IntKind.bits]; omega
theorem u64_nn {n : Int} (h : 0 ≤ n) (h2 : n ≤ 9223372036854775807) : (IntKind.u64.wrap n).toNat = n.toNat := by
  simp [IntKind.wrap, IntKind.signed, IntKind.bits]; omega
theorem bnd_lt_num {nf : Nat} {f : Fn} {u : Nat} {a b c n : Int} (hf : FnB f) (hnf : 1 ≤ nf) (hn : i64in n) (hu : u ≤ 38) (hw : wideOf (u : Int) = true) (ho : numberOk nf f ⟨(u : Int), a, b, c, n⟩ = true) : (bnd nf f u).1 ≤ (IntKind.u64.wrap n).toNat ∧ (IntKind.u64.wrap n).toNat ≤ (bnd nf f u).2 := by
  obtain ⟨n1, n2⟩ := hn
  obtain ⟨a1, a2, a3, a4, a5, a6, a7, a8⟩ := hf
  have hl := u64_lt n
  rcases wide_ops hu hw with rfl | rfl | rfl | rfl | rfl | rfl | rfl | rfl | rfl | rfl | rfl
  · simp [bnd]; omega
  all_goals
    unfold numberOk at ho
    simp at ho
    rw [u64_nn (by omega) n2]
    simp [bnd]
    omega
theorem num_bnd {nf : Nat} {f : Fn} {u v : Nat} {a b c : Int} (hf : FnB f) (hnf : 1 ≤ nf) (hnf2 : nf ≤ 300000000) (hu : u ≤ 38) (hw : wideOf (u : Int) = true) (h1 : (bnd nf f u).1 ≤ v) (h2 : v ≤ (bnd nf f u).2) : numberOk nf f ⟨(u : Int), a, b, c, IntKind.i64.wrap v⟩ = true := by
  obtain ⟨a1, a2, a3, a4, a5, a6, a7, a8⟩ := hf
  rcases wide_ops hu hw with rfl | rfl | rfl | rfl | rfl | rfl | rfl | rfl | rfl | rfl | rfl
  · rfl
  all_goals
    simp [bnd] at h1 h2
    rw [wrap_i64 ⟨by omega, by omega⟩]
    unfold numberOk
    simp
    omega
section
variable {B : Nat → UInt8} {L : Nat}
/-- A head that is there is read. -/
theorem fn_run {p mm : Nat} {fs : List Fn} {f : Fn} {k : Fn → Pr} (hf : FnG mm fs f) (h : At B L p (fnB f)) : run B L (pFn mm fs k) p = run B L (k f) (p + (fnB f).length) := by
  obtain ⟨h1, h2, h3, h4, h5, h6, h7, h8, h9⟩ := hf
  obtain ⟨name, frame, first, count, params⟩ := f
  simp only at h1 h2 h3 h4 h5 h6 h7 h8 h9
  obtain ⟨fr, rfl⟩ := nat_of (show 0 ≤ frame by omega)
  obtain ⟨cn, rfl⟩ := nat_of (show 0 ≤ count by omega)
  obtain ⟨pa, rfl⟩ := nat_of h6
  have hsz : name.data.toList.length = name.size := by rw [Array.length_toList]; rfl
  have hl := fnB_length ⟨name, (fr : Int), first, (cn : Int), (pa : Int)⟩
  simp only [fnB] at h
  obtain ⟨a0, a1⟩ := At.cons.1 h
  obtain ⟨a1, a4⟩ := At.append.1 a1
  obtain ⟨a1, a3⟩ := At.append.1 a1
  obtain ⟨a1, a2⟩ := At.append.1 a1
  have b0 : At B L p (lowB (name.size : Int) 1) := by rw [low1]; exact a0
  rw [hsz] at a2
  simp only [List.length_append, lowB_length, hsz] at a3 a4
  have hn1 := h8.1
  have hn2 := h8.2.1
  obtain ⟨c1, c2⟩ := a1
  rw [hsz] at c1 c2
  have hnm : nameOf (slc B (p + 1) name.size) = name := by
    rw [c2]
    exact name_eq.2 rfl
  rw [pFn, run_num b0 (by omega) (by omega) hn1 hn2, run_step (by omega) (by rw [hnm]; exact ⟨h8, h9⟩), run_num a2 (by omega) (by omega) (by omega) (by omega), run_num (v := cn) (by rw [← Nat.add_assoc] at a3; exact a3) (by omega) (by omega) (by omega) (by omega), run_num (v := pa) (by rw [← Nat.add_assoc, ← Nat.add_assoc] at a4; exact a4) (by omega) ?_ (Nat.zero_le _) ?_, hnm, hl, ← h1]
  · congr 1
    show p + 1 + name.size + 8 + 4 + 1 = p + (14 + name.size)
    omega
  · split at h7 <;> omega
  · split at h7
    · rename_i e; rw [if_pos e]; omega
    · rename_i e; rw [if_neg e]; omega
theorem fns_run {mm nf : Nat} {Fs : Nat → Fn} {K : List Fn → Pr} (hA : ∀ k, k < nf → At B L (12 + (fnsB Fs k).length) (fnB (Fs k))) (hG : ∀ k, k < nf → FnG mm (tabF Fs k) (Fs k)) :
    ∀ r k, k + r = nf → run B L (pFns mm r (tabF Fs k) K) (12 + (fnsB Fs k).length) = run B L (K (tabF Fs nf)) (12 + (fnsB Fs nf).length)
  | 0, k, h => by
    obtain rfl : k = nf := by omega
    rfl
  | r + 1, k, h => by
    rw [pFns, fn_run (hG k (by omega)) (hA k (by omega)), ← tabF_succ]
    have := fns_run (K := K) hA hG r (k + 1) (by omega)
    rw [fnsB, List.length_append, ← Nat.add_assoc] at this
    exact this
/-- An instruction that is there is read. -/
theorem in_run {p nf : Nat} {f : Fn} {last : Bool} {x : Ins} {k : Ins → Pr} (hf : FnB f) (hnf : 1 ≤ nf) (hx : InsIn x) (ho : insOk nf f x = true) (hl : last = true → lastOk x.op = true) (h : At B L p (insB x)) : run B L (pIn nf f last k) p = run B L (k x) (p + (insB x).length) := by
  obtain ⟨op, a, b, c, n⟩ := x
  have hlen := insB_length ⟨op, a, b, c, n⟩
  unfold insOk at ho
  simp only [Bool.and_eq_true] at ho hl hlen
  obtain ⟨⟨⟨⟨hu, ha⟩, hb⟩, hc⟩, hn⟩ := ho
  obtain ⟨u, rfl, u1, u2⟩ := uses_in hu
  obtain ⟨_, e1, e2, e3, e4⟩ := op_cases u1 u2
  obtain ⟨an, rfl, a1, a2⟩ := field_used ha
  obtain ⟨bn, rfl, b1, b2⟩ := field_used hb
  obtain ⟨cn, rfl, c1, c2⟩ := field_used hc
  rw [e1] at a2
  rw [e2] at b2
  rw [e3] at c2
  have hr := (shape_cases (u : Int)).2.1
  simp only [insB] at h
  obtain ⟨h0, h1⟩ := At.cons.1 h
  obtain ⟨h1, h2⟩ := At.append.1 h1
  rw [regsB_length] at h2
  have k0 : At B L p (lowB (u : Int) 1) := by rw [low1]; exact h0
  obtain ⟨k1, k2⟩ := k0
  rw [lowB_length] at k1 k2
  have ku : leN (slc B p 1) = u := by rw [k2]; exact leN_low (by omega) (by omega)
  rw [pIn_rest, run_step k1 (by rw [ku]; exact ⟨⟨u1, u2⟩, hl⟩), ku]
  have reg : ∀ j, j < regsOf (u : Int) → At B L (p + 1 + j) (lowB (regN ⟨(u : Int), (an : Int), (bn : Int), (cn : Int), n⟩ j) 1) := by
    intro j hj
    have key : ∀ r, j < r → At B L (p + 1) (regsB ⟨(u : Int), (an : Int), (bn : Int), (cn : Int), n⟩ r) → At B L (p + 1 + j) (lowB (regN ⟨(u : Int), (an : Int), (bn : Int), (cn : Int), n⟩ j) 1) := by
      intro r
      induction r with
      | zero => intro h; omega
      | succ r ih =>
        intro hjr hat
        rw [regsB] at hat
        obtain ⟨t1, t2⟩ := At.append.1 hat
        rw [regsB_length] at t2
        by_cases e : j = r
        · subst e; rw [low1]; exact t2
        · exact ih (by omega) t1
    exact key _ hj h1
  have fin : ∀ q, q = p + 1 + regsOf (u : Int) → run B L (pRest nf f u k 0 (updN (updN (updN (fun _ => 0) 0 an) 1 bn) 2 cn)) q = run B L (k ⟨(u : Int), (an : Int), (bn : Int), (cn : Int), n⟩) (p + (insB ⟨(u : Int), (an : Int), (bn : Int), (cn : Int), n⟩).length) := by
    rintro q rfl
    rw [hlen, pRest]
    have s0 : updN (updN (updN (fun _ => 0) 0 an) 1 bn) 2 cn 0 = an := rfl
    have s1 : updN (updN (updN (fun _ => 0) 0 an) 1 bn) 2 cn 1 = bn := rfl
    have s2 : updN (updN (updN (fun _ => 0) 0 an) 1 bn) 2 cn 2 = cn := rfl
    rw [s0, s1, s2]
    cases hw : wideOf (u : Int) with
    | false =>
      rw [if_neg (by decide), if_neg (by decide)]
      have hn0 : n = 0 := by
        rw [hw] at e4
        have := noN_number nf f ⟨(u : Int), (an : Int), (bn : Int), (cn : Int), n⟩ e4 hu
        rw [this] at hn
        simpa using hn
      rw [hn0]
      congr 1
      omega
    | true =>
      rw [if_pos rfl, if_pos rfl]
      rw [hw, if_pos rfl] at h2
      have hb := bnd_lt_num hf hnf hx.n u2 hw hn
      rw [← lowB_u64] at h2
      rw [run_num h2 (by omega) (by have := u64_lt n; omega) hb.1 hb.2, wrap_back hx.n]
      congr 1
      omega
  have r2 : ∀ q, q = p + 1 + min 2 (regsOf (u : Int)) → run B L (pRest nf f u k 1 (updN (updN (fun _ => 0) 0 an) 1 bn)) q = run B L (k ⟨(u : Int), (an : Int), (bn : Int), (cn : Int), n⟩) (p + (insB ⟨(u : Int), (an : Int), (bn : Int), (cn : Int), n⟩).length) := by
    rintro q rfl
    rw [pRest]
    by_cases g : 2 < regsOf (u : Int)
    · rw [show decide (2 - 0 < regsOf (u : Int)) = true from decide_eq_true g, pReg, if_pos rfl, run_num (v := cn) (by rw [show min 2 (regsOf (u : Int)) = 2 by omega]; exact reg 2 g) (by omega) (by omega) (by omega) (by omega)]
      exact fin _ (by omega)
    · have c0 := c2 (decide_eq_false g)
      rw [show decide (2 - 0 < regsOf (u : Int)) = false from decide_eq_false g, pReg, if_neg (by decide)]
      subst c0
      exact fin _ (by omega)
  have r1 : ∀ q, q = p + 1 + min 1 (regsOf (u : Int)) → run B L (pRest nf f u k 2 (updN (fun _ => 0) 0 an)) q = run B L (k ⟨(u : Int), (an : Int), (bn : Int), (cn : Int), n⟩) (p + (insB ⟨(u : Int), (an : Int), (bn : Int), (cn : Int), n⟩).length) := by
    rintro q rfl
    rw [pRest]
    by_cases g : 1 < regsOf (u : Int)
    · rw [show decide (2 - 1 < regsOf (u : Int)) = true from decide_eq_true g, pReg, if_pos rfl, run_num (v := bn) (by rw [show min 1 (regsOf (u : Int)) = 1 by omega]; exact reg 1 g) (by omega) (by omega) (by omega) (by omega)]
      exact r2 _ (by omega)
    · have c0 := b2 (decide_eq_false g)
      rw [show decide (2 - 1 < regsOf (u : Int)) = false from decide_eq_false g, pReg, if_neg (by decide)]
      subst c0
      exact r2 _ (by omega)
  rw [pRest]
  by_cases g : 0 < regsOf (u : Int)
  · rw [show decide (2 - 2 < regsOf (u : Int)) = true from decide_eq_true g, pReg, if_pos rfl, run_num (v := an) (by have := reg 0 g; exact this) (by omega) (by omega) (by omega) (by omega)]
    exact r1 _ (by omega)
  · have c0 := a2 (decide_eq_false g)
    rw [show decide (2 - 2 < regsOf (u : Int)) = false from decide_eq_false g, pReg, if_neg (by decide)]
    subst c0
    exact r1 _ (by omega)
theorem ins_run {P0 nf ni : Nat} {f : Fn} {X : Nat → Ins} {K : List Ins → Pr} (hf : FnB f) (hnf : 1 ≤ nf) (hA : ∀ a, a < ni → At B L (P0 + (inssB X a).length) (insB (X a))) (hI : ∀ a, a < ni → InsIn (X a)) :
    ∀ r a, a + r ≤ ni → (∀ j, j < r → insOk nf f (X (a + j)) = true) → (0 < r → lastOk (X (a + (r - 1))).op = true) → run B L (pIns nf f r (tabX X a) K) (P0 + (inssB X a).length) = run B L (K (tabX X (a + r))) (P0 + (inssB X (a + r)).length)
  | 0, a, h, _, _ => rfl
  | r + 1, a, h, ho, hl => by
    rw [pIns, in_run hf hnf (hI a (by omega)) (ho 0 (by omega)) (fun e => by
      have hr : r = 0 := by simpa using e
      subst hr
      exact hl (by omega)) (hA a (by omega)), ← tabX_succ]
    have := ins_run (K := K) hf hnf hA hI r (a + 1) (by omega) (fun j hj => by rw [show a + 1 + j = a + (j + 1) by omega]; exact ho (j + 1) (by omega)) (fun h0 => by rw [show a + 1 + (r - 1) = a + (r + 1 - 1) by omega]; exact hl (by omega))
    rw [inssB, List.length_append, ← Nat.add_assoc, show a + 1 + r = a + (r + 1) by omega] at this
    exact this
end
end Go.Proofs.Ytafhjpehkfcmjaa
