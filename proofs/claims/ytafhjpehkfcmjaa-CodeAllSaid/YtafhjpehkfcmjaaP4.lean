/- code's bytes: what is written reads as the code. Plain. code's bytes: what is written reads as the code; what reads is written so. Plain. -/
import Derived.Test.YtafhjpehkfcmjaaW28
set_option linter.unusedVariables false
set_option linter.unusedSimpArgs false
namespace Go.Proofs.Ytafhjpehkfcmjaa
open Go.RowKit
def tabX (X : Nat → Ins) (n : Nat) : List Ins := (List.range n).map X
def tabF (Fs : Nat → Fn) (n : Nat) : List Fn := (List.range n).map Fs
theorem tabX_succ (X : Nat → Ins) (n : Nat) : tabX X (n + 1) = tabX X n ++ [X n] := by simp [tabX, List.range_succ]
theorem tabF_succ (Fs : Nat → Fn) (n : Nat) : tabF Fs (n + 1) = tabF Fs n ++ [Fs n] := by simp [tabF, List.range_succ]
theorem tabF_length (Fs : Nat → Fn) (n : Nat) : (tabF Fs n).length = n := by simp [tabF]
theorem tabX_length (X : Nat → Ins) (n : Nat) : (tabX X n).length = n := by simp [tabX]
theorem firstL_tab (Fs : Nat → Fn) : ∀ n, firstL (tabF Fs n) = firstOf Fs n
  | 0 => rfl
  | n + 1 => by rw [tabF_succ, firstL_snoc, firstL_tab Fs n, firstOf]
theorem tabF_drop (Fs : Nat → Fn) {k n : Nat} (h : k < n) : (tabF Fs n).drop k = Fs k :: (tabF Fs n).drop (k + 1) := by
  rw [List.drop_eq_getElem_cons (by rw [tabF_length]; exact h)]
  congr 1
  simp [tabF]
theorem firstOf_nn {ni : Nat} {X : Nat → Ins} {nf : Nat} {Fs : Nat → Fn} (h : ∀ k, k < nf → OneOk ni X nf Fs k) : ∀ k, k ≤ nf → 0 ≤ firstOf Fs k
  | 0, _ => Int.le_refl _
  | k + 1, hk => by
    have := firstOf_nn h k (by omega)
    have := (h k (by omega)).2.1
    rw [firstOf]; omega
theorem firstOf_mono {ni : Nat} {X : Nat → Ins} {nf : Nat} {Fs : Nat → Fn} (h : ∀ k, k < nf → OneOk ni X nf Fs k) {k : Nat} (hk : k < nf) : firstOf Fs (k + 1) ≤ firstOf Fs nf := by
  obtain ⟨d, hd⟩ : ∃ d, nf = k + 1 + d := ⟨nf - (k + 1), by omega⟩
  have key : ∀ d, k + 1 + d ≤ nf → firstOf Fs (k + 1) ≤ firstOf Fs (k + 1 + d) := by
    intro d
    induction d with
    | zero => intro _; exact Int.le_refl _
    | succ d ih =>
      intro hd
      have := ih (by omega)
      have := (h (k + 1 + d) (by omega)).2.1
      have e : firstOf Fs (k + 1 + (d + 1)) = firstOf Fs (k + 1 + d) + (Fs (k + 1 + d)).count := rfl
      omega
  have := key d (by omega)
  rw [hd]; exact this
theorem nat_of {x : Int} (h : 0 ≤ x) : ∃ n : Nat, x = (n : Int) := Int.eq_ofNat_of_zero_le h
theorem u64_lt (n : Int) : (IntKind.u64.wrap n).toNat < 18446744073709551616 := by
  simp [IntKind.wrap, IntKind.signed, IntKind.bits]; omega
theorem u64_nn {n : Int} (h : 0 ≤ n) (h2 : n ≤ 9223372036854775807) : (IntKind.u64.wrap n).toNat = n.toNat := by
  simp [IntKind.wrap, IntKind.signed, IntKind.bits]; omega
theorem bnd_lt_num {nf : Nat} {f : Fn} {u : Nat} {a b c n : Int} (hf : FnB f) (hnf : 1 ≤ nf) (hn : i64in n) (hu : u ≤ 38) (hw : wideOf (u : Int) = true) (ho : numberOk nf f ⟨(u : Int), a, b, c, n⟩ = true) : (bnd nf f u).1 ≤ (IntKind.u64.wrap n).toNat ∧ (IntKind.u64.wrap n).toNat ≤ (bnd nf f u).2 := by
  obtain ⟨n1, n2⟩ := hn
  obtain ⟨a1, a2, a3, a4, a5, a6, a7, a8⟩ := hf
  have hl := u64_lt n
  rcases wide_ops hu hw with rfl | rfl | rfl | rfl | rfl | rfl | rfl | rfl | rfl | rfl | rfl
  · simp [bnd]; omega
  all_goals
    unfold numberOk at ho
    simp at ho
    rw [u64_nn (by omega) n2]
    simp [bnd]
    omega
theorem num_bnd {nf : Nat} {f : Fn} {u v : Nat} {a b c : Int} (hf : FnB f) (hnf : 1 ≤ nf) (hnf2 : nf ≤ 300000000) (hu : u ≤ 38) (hw : wideOf (u : Int) = true) (h1 : (bnd nf f u).1 ≤ v) (h2 : v ≤ (bnd nf f u).2) : numberOk nf f ⟨(u : Int), a, b, c, IntKind.i64.wrap v⟩ = true := by
  obtain ⟨a1, a2, a3, a4, a5, a6, a7, a8⟩ := hf
  rcases wide_ops hu hw with rfl | rfl | rfl | rfl | rfl | rfl | rfl | rfl | rfl | rfl | rfl
  · rfl
  all_goals
    simp [bnd] at h1 h2
    rw [wrap_i64 ⟨by omega, by omega⟩]
    unfold numberOk
    simp
    omega
section
variable {B : Nat → UInt8} {L : Nat}
/-- A head that is there is read. -/
theorem fn_run {p mm : Nat} {fs : List Fn} {f : Fn} {k : Fn → Pr} (hf : FnG mm fs f) (h : At B L p (fnB f)) : run B L (pFn mm fs k) p = run B L (k f) (p + (fnB f).length) := by
  obtain ⟨h1, h2, h3, h4, h5, h6, h7, h8, h9⟩ := hf
  obtain ⟨name, frame, first, count, params⟩ := f
  simp only at h1 h2 h3 h4 h5 h6 h7 h8 h9
  obtain ⟨fr, rfl⟩ := nat_of (show 0 ≤ frame by omega)
  obtain ⟨cn, rfl⟩ := nat_of (show 0 ≤ count by omega)
  obtain ⟨pa, rfl⟩ := nat_of h6
  have hsz : name.data.toList.length = name.size := by rw [Array.length_toList]; rfl
  have hl := fnB_length ⟨name, (fr : Int), first, (cn : Int), (pa : Int)⟩
  simp only [fnB] at h
  obtain ⟨a0, a1⟩ := At.cons.1 h
  obtain ⟨a1, a4⟩ := At.append.1 a1
  obtain ⟨a1, a3⟩ := At.append.1 a1
  obtain ⟨a1, a2⟩ := At.append.1 a1
  have b0 : At B L p (lowB (name.size : Int) 1) := by rw [low1]; exact a0
  rw [hsz] at a2
  simp only [List.length_append, lowB_length, hsz] at a3 a4
  have hn1 := h8.1
  have hn2 := h8.2.1
  obtain ⟨c1, c2⟩ := a1
  rw [hsz] at c1 c2
  have hnm : nameOf (slc B (p + 1) name.size) = name := by
    rw [c2]
    exact name_eq.2 rfl
  rw [pFn, run_num b0 (by omega) (by omega) hn1 hn2, run_step (by omega) (by rw [hnm]; exact ⟨h8, h9⟩), run_num a2 (by omega) (by omega) (by omega) (by omega), run_num (v := cn) (by rw [← Nat.add_assoc] at a3; exact a3) (by omega) (by omega) (by omega) (by omega), run_num (v := pa) (by rw [← Nat.add_assoc, ← Nat.add_assoc] at a4; exact a4) (by omega) ?_ (Nat.zero_le _) ?_, hnm, hl, ← h1]
  · congr 1
    show p + 1 + name.size + 8 + 4 + 1 = p + (14 + name.size)
    omega
  · split at h7 <;> omega
  · split at h7
    · rename_i e; rw [if_pos e]; omega
    · rename_i e; rw [if_neg e]; omega
theorem fns_run {mm nf : Nat} {Fs : Nat → Fn} {K : List Fn → Pr} (hA : ∀ k, k < nf → At B L (12 + (fnsB Fs k).length) (fnB (Fs k))) (hG : ∀ k, k < nf → FnG mm (tabF Fs k) (Fs k)) :
    ∀ r k, k + r = nf → run B L (pFns mm r (tabF Fs k) K) (12 + (fnsB Fs k).length) = run B L (K (tabF Fs nf)) (12 + (fnsB Fs nf).length)
  | 0, k, h => by
    obtain rfl : k = nf := by omega
    rfl
  | r + 1, k, h => by
    rw [pFns, fn_run (hG k (by omega)) (hA k (by omega)), ← tabF_succ]
    have := fns_run (K := K) hA hG r (k + 1) (by omega)
    rw [fnsB, List.length_append, ← Nat.add_assoc] at this
    exact this
/-- An instruction that is there is read. -/
theorem in_run {p nf : Nat} {f : Fn} {last : Bool} {x : Ins} {k : Ins → Pr} (hf : FnB f) (hnf : 1 ≤ nf) (hx : InsIn x) (ho : insOk nf f x = true) (hl : last = true → lastOk x.op = true) (h : At B L p (insB x)) : run B L (pIn nf f last k) p = run B L (k x) (p + (insB x).length) := by
  obtain ⟨op, a, b, c, n⟩ := x
  have hlen := insB_length ⟨op, a, b, c, n⟩
  unfold insOk at ho
  simp only [Bool.and_eq_true] at ho hl hlen
  obtain ⟨⟨⟨⟨hu, ha⟩, hb⟩, hc⟩, hn⟩ := ho
  obtain ⟨u, rfl, u1, u2⟩ := uses_in hu
  obtain ⟨_, e1, e2, e3, e4⟩ := op_cases u1 u2
  obtain ⟨an, rfl, a1, a2⟩ := field_used ha
  obtain ⟨bn, rfl, b1, b2⟩ := field_used hb
  obtain ⟨cn, rfl, c1, c2⟩ := field_used hc
  rw [e1] at a2
  rw [e2] at b2
  rw [e3] at c2
  have hr := (shape_cases (u : Int)).2.1
  simp only [insB] at h
  obtain ⟨h0, h1⟩ := At.cons.1 h
  obtain ⟨h1, h2⟩ := At.append.1 h1
  rw [regsB_length] at h2
  have k0 : At B L p (lowB (u : Int) 1) := by rw [low1]; exact h0
  obtain ⟨k1, k2⟩ := k0
  rw [lowB_length] at k1 k2
  have ku : leN (slc B p 1) = u := by rw [k2]; exact leN_low (by omega) (by omega)
  rw [pIn_rest, run_step k1 (by rw [ku]; exact ⟨⟨u1, u2⟩, hl⟩), ku]
  have reg : ∀ j, j < regsOf (u : Int) → At B L (p + 1 + j) (lowB (regN ⟨(u : Int), (an : Int), (bn : Int), (cn : Int), n⟩ j) 1) := by
    intro j hj
    have key : ∀ r, j < r → At B L (p + 1) (regsB ⟨(u : Int), (an : Int), (bn : Int), (cn : Int), n⟩ r) → At B L (p + 1 + j) (lowB (regN ⟨(u : Int), (an : Int), (bn : Int), (cn : Int), n⟩ j) 1) := by
      intro r
      induction r with
      | zero => intro h; omega
      | succ r ih =>
        intro hjr hat
        rw [regsB] at hat
        obtain ⟨t1, t2⟩ := At.append.1 hat
        rw [regsB_length] at t2
        by_cases e : j = r
        · subst e; rw [low1]; exact t2
        · exact ih (by omega) t1
    exact key _ hj h1
  have fin : ∀ q, q = p + 1 + regsOf (u : Int) → run B L (pRest nf f u k 0 (updN (updN (updN (fun _ => 0) 0 an) 1 bn) 2 cn)) q = run B L (k ⟨(u : Int), (an : Int), (bn : Int), (cn : Int), n⟩) (p + (insB ⟨(u : Int), (an : Int), (bn : Int), (cn : Int), n⟩).length) := by
    rintro q rfl
    rw [hlen, pRest]
    have s0 : updN (updN (updN (fun _ => 0) 0 an) 1 bn) 2 cn 0 = an := rfl
    have s1 : updN (updN (updN (fun _ => 0) 0 an) 1 bn) 2 cn 1 = bn := rfl
    have s2 : updN (updN (updN (fun _ => 0) 0 an) 1 bn) 2 cn 2 = cn := rfl
    rw [s0, s1, s2]
    cases hw : wideOf (u : Int) with
    | false =>
      rw [if_neg (by decide), if_neg (by decide)]
      have hn0 : n = 0 := by
        rw [hw] at e4
        have := noN_number nf f ⟨(u : Int), (an : Int), (bn : Int), (cn : Int), n⟩ e4 hu
        rw [this] at hn
        simpa using hn
      rw [hn0]
      congr 1
      omega
    | true =>
      rw [if_pos rfl, if_pos rfl]
      rw [hw, if_pos rfl] at h2
      have hb := bnd_lt_num hf hnf hx.n u2 hw hn
      rw [← lowB_u64] at h2
      rw [run_num h2 (by omega) (by have := u64_lt n; omega) hb.1 hb.2, wrap_back hx.n]
      congr 1
      omega
  have r2 : ∀ q, q = p + 1 + min 2 (regsOf (u : Int)) → run B L (pRest nf f u k 1 (updN (updN (fun _ => 0) 0 an) 1 bn)) q = run B L (k ⟨(u : Int), (an : Int), (bn : Int), (cn : Int), n⟩) (p + (insB ⟨(u : Int), (an : Int), (bn : Int), (cn : Int), n⟩).length) := by
    rintro q rfl
    rw [pRest]
    by_cases g : 2 < regsOf (u : Int)
    · rw [show decide (2 - 0 < regsOf (u : Int)) = true from decide_eq_true g, pReg, if_pos rfl, run_num (v := cn) (by rw [show min 2 (regsOf (u : Int)) = 2 by omega]; exact reg 2 g) (by omega) (by omega) (by omega) (by omega)]
      exact fin _ (by omega)
    · have c0 := c2 (decide_eq_false g)
      rw [show decide (2 - 0 < regsOf (u : Int)) = false from decide_eq_false g, pReg, if_neg (by decide)]
      subst c0
      exact fin _ (by omega)
  have r1 : ∀ q, q = p + 1 + min 1 (regsOf (u : Int)) → run B L (pRest nf f u k 2 (updN (fun _ => 0) 0 an)) q = run B L (k ⟨(u : Int), (an : Int), (bn : Int), (cn : Int), n⟩) (p + (insB ⟨(u : Int), (an : Int), (bn : Int), (cn : Int), n⟩).length) := by
    rintro q rfl
    rw [pRest]
    by_cases g : 1 < regsOf (u : Int)
    · rw [show decide (2 - 1 < regsOf (u : Int)) = true from decide_eq_true g, pReg, if_pos rfl, run_num (v := bn) (by rw [show min 1 (regsOf (u : Int)) = 1 by omega]; exact reg 1 g) (by omega) (by omega) (by omega) (by omega)]
      exact r2 _ (by omega)
    · have c0 := b2 (decide_eq_false g)
      rw [show decide (2 - 1 < regsOf (u : Int)) = false from decide_eq_false g, pReg, if_neg (by decide)]
      subst c0
      exact r2 _ (by omega)
  rw [pRest]
  by_cases g : 0 < regsOf (u : Int)
  · rw [show decide (2 - 2 < regsOf (u : Int)) = true from decide_eq_true g, pReg, if_pos rfl, run_num (v := an) (by have := reg 0 g; exact this) (by omega) (by omega) (by omega) (by omega)]
    exact r1 _ (by omega)
  · have c0 := a2 (decide_eq_false g)
    rw [show decide (2 - 2 < regsOf (u : Int)) = false from decide_eq_false g, pReg, if_neg (by decide)]
    subst c0
    exact r1 _ (by omega)
theorem ins_run {P0 nf ni : Nat} {f : Fn} {X : Nat → Ins} {K : List Ins → Pr} (hf : FnB f) (hnf : 1 ≤ nf) (hA : ∀ a, a < ni → At B L (P0 + (inssB X a).length) (insB (X a))) (hI : ∀ a, a < ni → InsIn (X a)) :
    ∀ r a, a + r ≤ ni → (∀ j, j < r → insOk nf f (X (a + j)) = true) → (0 < r → lastOk (X (a + (r - 1))).op = true) → run B L (pIns nf f r (tabX X a) K) (P0 + (inssB X a).length) = run B L (K (tabX X (a + r))) (P0 + (inssB X (a + r)).length)
  | 0, a, h, _, _ => rfl
  | r + 1, a, h, ho, hl => by
    rw [pIns, in_run hf hnf (hI a (by omega)) (ho 0 (by omega)) (fun e => by
      have hr : r = 0 := by simpa using e
      subst hr
      exact hl (by omega)) (hA a (by omega)), ← tabX_succ]
    have := ins_run (K := K) hf hnf hA hI r (a + 1) (by omega) (fun j hj => by rw [show a + 1 + j = a + (j + 1) by omega]; exact ho (j + 1) (by omega)) (fun h0 => by rw [show a + 1 + (r - 1) = a + (r + 1 - 1) by omega]; exact hl (by omega))
    rw [inssB, List.length_append, ← Nat.add_assoc, show a + 1 + r = a + (r + 1) by omega] at this
    exact this
end
end Go.Proofs.Ytafhjpehkfcmjaa
namespace Go.Proofs.Ytafhjpehkfcmjaa
open Go.RowKit
section
variable {B : Nat → UInt8} {L : Nat}
theorem fns_at {p nf : Nat} {Fs : Nat → Fn} (h : At B L p (fnsB Fs nf)) : ∀ k, k < nf → At B L (p + (fnsB Fs k).length) (fnB (Fs k)) := by
  induction nf with
  | zero => intro k hk; omega
  | succ n ih =>
    rw [fnsB] at h
    obtain ⟨h1, h2⟩ := At.append.1 h
    intro k hk
    by_cases e : k = n
    · subst e; exact h2
    · exact ih h1 k (by omega)
theorem inss_at {p ni : Nat} {X : Nat → Ins} (h : At B L p (inssB X ni)) : ∀ k, k < ni → At B L (p + (inssB X k).length) (insB (X k)) := by
  induction ni with
  | zero => intro k hk; omega
  | succ n ih =>
    rw [inssB] at h
    obtain ⟨h1, h2⟩ := At.append.1 h
    intro k hk
    by_cases e : k = n
    · subst e; exact h2
    · exact ih h1 k (by omega)
theorem lastOk_last (x : Int) : lastOk x = true ↔ (x == 21 || x == 27 || x == 35) = true := Iff.rfl
theorem OneOk.fnG {ni : Nat} {X : Nat → Ins} {nf : Nat} {Fs : Nat → Fn} {m : Int} (h : CodeOk ni X nf Fs m) (hni : ni ≤ 4294967295) (k : Nat) (hk : k < nf) : FnG m.toNat (tabF Fs k) (Fs k) := by
  obtain ⟨h1, h2, h3, h4, h5, h6, h7, h8, h9, h10, h11⟩ := h.1 k hk
  have hnn := firstOf_nn h.1 k (by omega)
  refine ⟨by rw [firstL_tab]; exact h1, h6, h7, h2, by omega, h8, ?_, h5, ?_⟩
  · rw [tabF_length]
    split
    · rename_i e; rw [e, h.2.2.2.2]; omega
    · exact h9
  · intro g hg
    obtain ⟨j, hj, rfl⟩ := List.mem_map.1 hg
    exact h4 j (List.mem_range.1 hj)
theorem OneOk.fnB_ {ni : Nat} {X : Nat → Ins} {nf : Nat} {Fs : Nat → Fn} {m : Int} (h : CodeOk ni X nf Fs m) (hni : ni ≤ 4294967295) (k : Nat) (hk : k < nf) : FnB (Fs k) := by
  obtain ⟨h1, h2, h3, h4, h5, h6, h7, h8, h9, h10, h11⟩ := h.1 k hk
  have hnn := firstOf_nn h.1 k (by omega)
  exact ⟨h6, h7, by omega, by omega, h2, by omega, h8, h9⟩
theorem body_run {P0 ni nf : Nat} {X : Nat → Ins} {Fs : Nat → Fn} {m : Int} {K : List Ins → Pr} (h : CodeOk ni X nf Fs m) (hni : ni ≤ 4294967295) (hnf : 1 ≤ nf) (hI : ∀ a, a < ni → InsIn (X a)) (hA : ∀ a, a < ni → At B L (P0 + (inssB X a).length) (insB (X a))) :
    ∀ r k, k + r = nf → ∀ fi : Nat, firstOf Fs k = (fi : Int) → run B L (pBody nf ((tabF Fs nf).drop k) (tabX X fi) K) (P0 + (inssB X fi).length) = run B L (K (tabX X ni)) (P0 + (inssB X ni).length)
  | 0, k, hk, fi, hfi => by
    obtain rfl : k = nf := by omega
    have := h.2.1
    obtain rfl : fi = ni := by omega
    rw [List.drop_eq_nil_of_le (by rw [tabF_length]; omega), pBody]
  | r + 1, k, hk, fi, hfi => by
    have hok := h.1 k (by omega)
    obtain ⟨h1, h2, h3, h4, h5, h6, h7, h8, h9, h10, h11⟩ := hok
    obtain ⟨cn, hcn⟩ := nat_of (show 0 ≤ (Fs k).count by omega)
    rw [hfi, hcn, Int.toNat_natCast, Int.toNat_natCast] at h10 h11
    have hle : fi + cn ≤ ni := by omega
    rw [tabF_drop Fs (by omega), pBody, hcn, Int.toNat_natCast, ins_run (OneOk.fnB_ h hni k (by omega)) hnf hA hI cn fi hle (fun j hj => h10 j hj) (fun _ => h11)]
    exact body_run h hni hnf hI hA r (k + 1) (by omega) (fi + cn) (by rw [firstOf, hfi, hcn]; omega)
/-- What is written reads as the code. -/
theorem enc_run {ni : Nat} {X : Nat → Ins} {nf : Nat} {Fs : Nat → Fn} {m : Int} (h : CodeOk ni X nf Fs m) (hI : ∀ a, a < ni → InsIn (X a)) (hni : ni ≤ 4294967295) (hnf : nf ≤ 4294967295) (hA : At B L 0 (enc ni X nf Fs m)) (hL : L = (enc ni X nf Fs m).length) : run B L pAll 0 = .good ⟨tabX X ni, tabF Fs nf, m.toNat⟩ := by
  obtain ⟨mm, hm⟩ := nat_of h.2.2.1
  subst hm
  have hmn := h.2.2.2.1
  have hlen := enc_length ni X nf Fs (mm : Int)
  unfold enc at hA
  obtain ⟨a0, a5⟩ := At.append.1 hA
  obtain ⟨a0, a4⟩ := At.append.1 a0
  obtain ⟨a0, a3⟩ := At.append.1 a0
  obtain ⟨a0, a2⟩ := At.append.1 a0
  simp only [List.length_append, lowB_length, List.length_cons, List.length_nil, Nat.zero_add] at a2 a3 a4 a5
  rw [pAll_def, run_head headL 0 a0]
  show run B L (pNum 4 1 4294967295 k2) 4 = _
  rw [run_num (v := nf) a2 (by omega) (by omega) (by omega) hnf]
  show run B L (pNum 4 0 (nf - 1) fun m => pFns m nf [] (k3 m)) 8 = _
  rw [run_num (v := mm) a3 (by omega) (by omega) (by omega) (by omega)]
  have hG := fun k hk => OneOk.fnG h hni k hk
  rw [Int.toNat_natCast] at hG
  have e1 := fns_run (K := k3 mm) (fns_at a4) hG nf 0 (by omega)
  have e2 : run B L (pFns mm nf [] (k3 mm)) 12 = run B L (k3 mm (tabF Fs nf)) (12 + (fnsB Fs nf).length) := e1
  rw [show 8 + 4 = 12 from rfl, e2, k3, tabF_length]
  have a5' : At B L (12 + (fnsB Fs nf).length) (inssB X ni) := a5
  have e3 := body_run (K := fun xs => .done ⟨xs, tabF Fs nf, mm⟩) h hni (by omega) hI (inss_at a5') nf 0 (by omega) 0 rfl
  have e4 : run B L (pBody nf (tabF Fs nf) [] fun xs => .done ⟨xs, tabF Fs nf, mm⟩) (12 + (fnsB Fs nf).length) = run B L (.done ⟨tabX X ni, tabF Fs nf, mm⟩) (12 + (fnsB Fs nf).length + (inssB X ni).length) := e3
  rw [e4, Int.toNat_natCast, ← hlen, ← hL, run_done]
/-! ## back -/
theorem run_need {p n : Nat} {ok : List UInt8 → Prop} {f : List UInt8 → Pr} {c : Cd} (h : run B L (.need n ok f) p = .good c) : p + n ≤ L ∧ ok (slc B p n) ∧ run B L (f (slc B p n)) (p + n) = .good c := by
  by_cases h1 : p + n ≤ L
  · by_cases h2 : ok (slc B p n)
    · rw [run_step h1 h2] at h; exact ⟨h1, h2, h⟩
    · rw [run_wrong h1 h2] at h; cases h
  · rw [run_lack (by omega)] at h; cases h
theorem fn_inv {p mm : Nat} {fs : List Fn} {k : Fn → Pr} {c : Cd} (h : run B L (pFn mm fs k) p = .good c) : ∃ f, FnG mm fs f ∧ At B L p (fnB f) ∧ run B L (k f) (p + (fnB f).length) = .good c := by
  rw [pFn] at h
  obtain ⟨z, z1, z2, z3, az, h⟩ := num_run (by omega) h
  obtain ⟨hz, ⟨hn, hd⟩, h⟩ := run_need h
  obtain ⟨fr, f1, f2, f3, af, h⟩ := num_run (by omega) h
  obtain ⟨cn, c1, c2, c3, ac, h⟩ := num_run (by omega) h
  obtain ⟨pa, p1, p2, p3, ap, h⟩ := num_run (by omega) h
  have hsz := nameOf_size B (p + 1) z
  have hl := fnB_length ⟨nameOf (slc B (p + 1) z), (fr : Int), firstL fs, (cn : Int), (pa : Int)⟩
  have hdl : (nameOf (slc B (p + 1) z)).data.toList = slc B (p + 1) z := rfl
  refine ⟨⟨nameOf (slc B (p + 1) z), fr, firstL fs, cn, pa⟩, ⟨rfl, by show (2 : Int) ≤ fr; omega, by show (fr : Int) ≤ _; omega, by show (1 : Int) ≤ cn; omega, by show (cn : Int) ≤ _; omega, by show (0 : Int) ≤ pa; omega, ?_, hn, hd⟩, ?_, ?_⟩
  · show (pa : Int) ≤ if fs.length = mm then 0 else 8
    split
    · rename_i e; rw [if_pos e] at p2; omega
    · rename_i e; rw [if_neg e] at p2; omega
  · simp only [fnB]
    rw [hsz, hdl]
    rw [low1] at az
    refine At.cons.2 ⟨az, At.append.2 ⟨At.append.2 ⟨At.append.2 ⟨⟨by rw [slc_length]; exact hz, by rw [slc_length]⟩, ?_⟩, ?_⟩, ?_⟩⟩
    · rw [slc_length]; exact af
    · simp only [List.length_append, lowB_length, slc_length]; rw [← Nat.add_assoc]; exact ac
    · simp only [List.length_append, lowB_length, slc_length]; rw [← Nat.add_assoc, ← Nat.add_assoc]; exact ap
  · rw [hl, hsz, ← h]
    congr 1
    omega
theorem fns_inv {mm : Nat} {K : List Fn → Pr} {c : Cd} : ∀ r fs p, p ≤ L → FsOk mm fs → run B L (pFns mm r fs K) p = .good c → ∃ gs, gs.length = r ∧ FsOk mm (fs ++ gs) ∧ At B L p (gs.flatMap fnB) ∧ run B L (K (fs ++ gs)) (p + (gs.flatMap fnB).length) = .good c
  | 0, fs, p, hp, hs, h => ⟨[], rfl, by simpa using hs, At.nil hp, by simpa [pFns] using h⟩
  | r + 1, fs, p, hp, hs, h => by
    rw [pFns] at h
    obtain ⟨f, hf, ha, h⟩ := fn_inv h
    obtain ⟨gs, g1, g2, g3, g4⟩ := fns_inv r (fs ++ [f]) _ ha.1 (hs.snoc hf) h
    refine ⟨f :: gs, by simp [g1], by simpa using g2, ?_, ?_⟩
    · rw [List.flatMap_cons]; exact At.append.2 ⟨ha, g3⟩
    · rw [List.flatMap_cons, List.length_append, ← Nat.add_assoc]
      simpa using g4
theorem reg_inv {p : Nat} {u : Bool} {k : Nat → Pr} {c : Cd} (hp : p ≤ L) (h : run B L (pReg u k) p = .good c) : ∃ v : Nat, v ≤ 15 ∧ (u = false → v = 0) ∧ At B L p (if u then [Ytafhjpehkfcmjaa.u8 (v : Int)] else []) ∧ p + (if u then 1 else 0) ≤ L ∧ run B L (k v) (p + if u then 1 else 0) = .good c := by
  cases u with
  | false => exact ⟨0, by omega, fun _ => rfl, At.nil hp, hp, h⟩
  | true =>
    rw [pReg, if_pos rfl] at h
    obtain ⟨v, v1, v2, v3, av, h⟩ := num_run (by omega) h
    rw [low1] at av
    exact ⟨v, v2, fun h => by (cases h), av, av.1, h⟩
theorem in_inv {p nf : Nat} {f : Fn} {last : Bool} {k : Ins → Pr} {c : Cd} (hf : FnB f) (hnf : 1 ≤ nf) (hnf2 : nf ≤ 300000000) (h : run B L (pIn nf f last k) p = .good c) : ∃ x, InsIn x ∧ insOk nf f x = true ∧ (last = true → lastOk x.op = true) ∧ At B L p (insB x) ∧ run B L (k x) (p + (insB x).length) = .good c := by
  rw [pIn_rest] at h
  obtain ⟨h0, ⟨⟨u1, u2⟩, hl⟩, h⟩ := run_need h
  have hul := leN_lt (slc B p 1)
  rw [slc_length] at hul
  have ha0 : At B L p (lowB (leN (slc B p 1) : Int) 1) := ⟨by rw [lowB_length]; exact h0, by rw [lowB_length]; have := low_leN (l := slc B p 1) (by rw [slc_length]; omega); rw [slc_length] at this; exact this.symm⟩
  rw [low1] at ha0
  generalize leN (slc B p 1) = u at *
  obtain ⟨hu, e1, e2, e3, e4⟩ := op_cases u1 u2
  have hr := (shape_cases (u : Int)).2.1
  rw [pRest] at h
  obtain ⟨a, a1, a2, aa, la, h⟩ := reg_inv h0 h
  rw [pRest] at h
  obtain ⟨b, b1, b2, ab, lb, h⟩ := reg_inv la h
  rw [pRest] at h
  obtain ⟨d, d1, d2, ad, ld, h⟩ := reg_inv lb h
  have s0 : updN (updN (updN (fun _ => 0) (2 - 2) a) (2 - 1) b) (2 - 0) d 0 = a := rfl
  have s1 : updN (updN (updN (fun _ => 0) (2 - 2) a) (2 - 1) b) (2 - 0) d 1 = b := rfl
  have s2 : updN (updN (updN (fun _ => 0) (2 - 2) a) (2 - 1) b) (2 - 0) d 2 = d := rfl
  rw [pRest, s0, s1, s2] at h
  have fields : fieldOk (a : Int) (useBit (u : Int) 1) = true ∧ fieldOk (b : Int) (useBit (u : Int) 2) = true ∧ fieldOk (d : Int) (useBit (u : Int) 4) = true := by
    rw [e1, e2, e3]
    exact ⟨used_field a1 a2, used_field b1 b2, used_field d1 d2⟩
  have regs : ∀ n : Int, At B L (p + 1) (regsB ⟨(u : Int), (a : Int), (b : Int), (d : Int), n⟩ (regsOf (u : Int))) ∧ p + 1 + (if decide (2 - 2 < regsOf (u : Int)) then 1 else 0) + (if decide (2 - 1 < regsOf (u : Int)) then 1 else 0) + (if decide (2 - 0 < regsOf (u : Int)) then 1 else 0) = p + 1 + regsOf (u : Int) := by
    intro n
    generalize regsOf (u : Int) = rg at *
    match rg, hr with
    | 0, _ => exact ⟨At.nil h0, rfl⟩
    | 1, _ => exact ⟨aa, rfl⟩
    | 2, _ => exact ⟨At.append.2 ⟨aa, ab⟩, rfl⟩
    | 3, _ => exact ⟨At.append.2 ⟨At.append.2 ⟨aa, ab⟩, ad⟩, rfl⟩
    | n + 4, h => omega
  have hlen : ∀ n : Int, (insB ⟨(u : Int), (a : Int), (b : Int), (d : Int), n⟩).length = 1 + regsOf (u : Int) + if wideOf (u : Int) then 8 else 0 := fun n => insB_length ⟨(u : Int), (a : Int), (b : Int), (d : Int), n⟩
  have small : ∀ v : Nat, v ≤ 38 → i64in (v : Int) := fun v hv => ⟨by omega, by omega⟩
  cases hw : wideOf (u : Int) with
  | false =>
    rw [hw, if_neg (by decide), (regs 0).2] at h
    refine ⟨⟨u, a, b, d, 0⟩, ⟨small u u2, small a (by omega), small b (by omega), small d (by omega), i64in_zero⟩, ?_, hl, ?_, ?_⟩
    · unfold insOk
      have := noN_number nf f ⟨(u : Int), (a : Int), (b : Int), (d : Int), 0⟩ (by rw [← hw]; exact e4) hu
      simp only [hu, fields.1, fields.2.1, fields.2.2, this]
      rfl
    · simp only [insB]
      rw [hw, if_neg (by decide), List.append_nil]
      exact At.cons.2 ⟨ha0, (regs 0).1⟩
    · rw [hlen, hw, if_neg (by decide), ← h]
      congr 1
      omega
  | true =>
    rw [hw, if_pos rfl, (regs 0).2] at h
    obtain ⟨v, v1, v2, v3, av, h⟩ := num_run (by omega) h
    refine ⟨⟨u, a, b, d, IntKind.i64.wrap v⟩, ⟨small u u2, small a (by omega), small b (by omega), small d (by omega), wrap_in _⟩, ?_, hl, ?_, ?_⟩
    · unfold insOk
      simp only [hu, fields.1, fields.2.1, fields.2.2, num_bnd hf hnf hnf2 u2 hw v1 v2]
      rfl
    · simp only [insB]
      rw [hw, if_pos rfl]
      refine At.cons.2 ⟨ha0, At.append.2 ⟨(regs _).1, ?_⟩⟩
      rw [regsB_length]
      have : lowB (IntKind.i64.wrap (v : Int)) 8 = lowB (v : Int) 8 := by
        have := lowB_wrap (v : Int) 8
        rwa [show IntKind.u64.wrap (v : Int) = (v : Int) from by have := wrap_nat (v := v) (by omega); simp [IntKind.wrap, IntKind.signed, IntKind.bits]; omega] at this
      rw [this]
      exact av
    · rw [hlen, hw, if_pos rfl, ← h]
      congr 1
      omega
theorem ins_inv {nf : Nat} {f : Fn} {K : List Ins → Pr} {c : Cd} (hf : FnB f) (hnf : 1 ≤ nf) (hnf2 : nf ≤ 300000000) : ∀ r xs p, p ≤ L → run B L (pIns nf f r xs K) p = .good c → ∃ ys, ys.length = r ∧ (∀ y, y ∈ ys → InsIn y ∧ insOk nf f y = true) ∧ (∀ zs z, ys = zs ++ [z] → lastOk z.op = true) ∧ At B L p (ys.flatMap insB) ∧ run B L (K (xs ++ ys)) (p + (ys.flatMap insB).length) = .good c
  | 0, xs, p, hp, h => ⟨[], rfl, fun y hy => by simp at hy, fun zs z hz => by simp at hz, At.nil hp, by simpa [pIns] using h⟩
  | r + 1, xs, p, hp, h => by
    rw [pIns] at h
    obtain ⟨x, hx, ho, hl, ha, h⟩ := in_inv hf hnf hnf2 h
    obtain ⟨ys, y1, y2, y3, y4, y5⟩ := ins_inv hf hnf hnf2 r (xs ++ [x]) _ ha.1 h
    refine ⟨x :: ys, by simp [y1], ?_, ?_, ?_, ?_⟩
    · intro y hy
      rcases List.mem_cons.1 hy with rfl | hy
      · exact ⟨hx, ho⟩
      · exact y2 y hy
    · intro zs z hz
      cases zs with
      | nil =>
        injection hz with h1 h2
        subst h1 h2
        exact hl (by simpa using y1.symm)
      | cons w zs =>
        injection hz with h1 h2
        exact y3 zs z h2
    · rw [List.flatMap_cons]; exact At.append.2 ⟨ha, y4⟩
    · rw [List.flatMap_cons, List.length_append, ← Nat.add_assoc]
      simpa using y5
end
end Go.Proofs.Ytafhjpehkfcmjaa
