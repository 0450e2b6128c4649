/- code's bytes: what is written reads as the code; what reads is written so. Plain. -/
import Derived.Test.YtafhjpehkfcmjaaP3
set_option linter.unusedVariables false
set_option linter.unusedSimpArgs false
namespace Go.Proofs.Ytafhjpehkfcmjaa
open Go.RowKit
section
variable {B : Nat → UInt8} {L : Nat}
theorem fns_at {p nf : Nat} {Fs : Nat → Fn} (h : At B L p (fnsB Fs nf)) : ∀ k, k < nf → At B L (p + (fnsB Fs k).length) (fnB (Fs k)) := by
  induction nf with
  | zero => intro k hk; omega
  | succ n ih =>
    rw [fnsB] at h
    obtain ⟨h1, h2⟩ := At.append.1 h
    intro k hk
    by_cases e : k = n
    · subst e; exact h2
    · exact ih h1 k (by omega)
theorem inss_at {p ni : Nat} {X : Nat → Ins} (h : At B L p (inssB X ni)) : ∀ k, k < ni → At B L (p + (inssB X k).length) (insB (X k)) := by
  induction ni with
  | zero => intro k hk; omega
  | succ n ih =>
    rw [inssB] at h
    obtain ⟨h1, h2⟩ := At.append.1 h
    intro k hk
    by_cases e : k = n
    · subst e; exact h2
    · exact ih h1 k (by omega)
theorem lastOk_last (x : Int) : lastOk x = true ↔ (x == 21 || x == 27 || x == 35) = true := Iff.rfl
theorem OneOk.fnG {ni : Nat} {X : Nat → Ins} {nf : Nat} {Fs : Nat → Fn} {m : Int} (h : CodeOk ni X nf Fs m) (hni : ni ≤ 4294967295) (k : Nat) (hk : k < nf) : FnG m.toNat (tabF Fs k) (Fs k) := by
  obtain ⟨h1, h2, h3, h4, h5, h6, h7, h8, h9, h10, h11⟩ := h.1 k hk
  have hnn := firstOf_nn h.1 k (by omega)
  refine ⟨by rw [firstL_tab]; exact h1, h6, h7, h2, by omega, h8, ?_, h5, ?_⟩
  · rw [tabF_length]
    split
    · rename_i e; rw [e, h.2.2.2.2]; omega
    · exact h9
  · intro g hg
    obtain ⟨j, hj, rfl⟩ := List.mem_map.1 hg
    exact h4 j (List.mem_range.1 hj)
theorem OneOk.fnB_ {ni : Nat} {X : Nat → Ins} {nf : Nat} {Fs : Nat → Fn} {m : Int} (h : CodeOk ni X nf Fs m) (hni : ni ≤ 4294967295) (k : Nat) (hk : k < nf) : FnB (Fs k) := by
  obtain ⟨h1, h2, h3, h4, h5, h6, h7, h8, h9, h10, h11⟩ := h.1 k hk
  have hnn := firstOf_nn h.1 k (by omega)
  exact ⟨h6, h7, by omega, by omega, h2, by omega, h8, h9⟩
theorem body_run {P0 ni nf : Nat} {X : Nat → Ins} {Fs : Nat → Fn} {m : Int} {K : List Ins → Pr} (h : CodeOk ni X nf Fs m) (hni : ni ≤ 4294967295) (hnf : 1 ≤ nf) (hI : ∀ a, a < ni → InsIn (X a)) (hA : ∀ a, a < ni → At B L (P0 + (inssB X a).length) (insB (X a))) :
    ∀ r k, k + r = nf → ∀ fi : Nat, firstOf Fs k = (fi : Int) → run B L (pBody nf ((tabF Fs nf).drop k) (tabX X fi) K) (P0 + (inssB X fi).length) = run B L (K (tabX X ni)) (P0 + (inssB X ni).length)
  | 0, k, hk, fi, hfi => by
    obtain rfl : k = nf := by omega
    have := h.2.1
    obtain rfl : fi = ni := by omega
    rw [List.drop_eq_nil_of_le (by rw [tabF_length]; omega), pBody]
  | r + 1, k, hk, fi, hfi => by
    have hok := h.1 k (by omega)
    obtain ⟨h1, h2, h3, h4, h5, h6, h7, h8, h9, h10, h11⟩ := hok
    obtain ⟨cn, hcn⟩ := nat_of (show 0 ≤ (Fs k).count by omega)
    rw [hfi, hcn, Int.toNat_natCast, Int.toNat_natCast] at h10 h11
    have hle : fi + cn ≤ ni := by omega
    rw [tabF_drop Fs (by omega), pBody, hcn, Int.toNat_natCast, ins_run (OneOk.fnB_ h hni k (by omega)) hnf hA hI cn fi hle (fun j hj => h10 j hj) (fun _ => h11)]
    exact body_run h hni hnf hI hA r (k + 1) (by omega) (fi + cn) (by rw [firstOf, hfi, hcn]; omega)
/-- What is written reads as the code. -/
theorem enc_run {ni : Nat} {X : Nat → Ins} {nf : Nat} {Fs : Nat → Fn} {m : Int} (h : CodeOk ni X nf Fs m) (hI : ∀ a, a < ni → InsIn (X a)) (hni : ni ≤ 4294967295) (hnf : nf ≤ 4294967295) (hA : At B L 0 (enc ni X nf Fs m)) (hL : L = (enc ni X nf Fs m).length) : run B L pAll 0 = .good ⟨tabX X ni, tabF Fs nf, m.toNat⟩ := by
  obtain ⟨mm, hm⟩ := nat_of h.2.2.1
  subst hm
  have hmn := h.2.2.2.1
  have hlen := enc_length ni X nf Fs (mm : Int)
  unfold enc at hA
  obtain ⟨a0, a5⟩ := At.append.1 hA
  obtain ⟨a0, a4⟩ := At.append.1 a0
  obtain ⟨a0, a3⟩ := At.append.1 a0
  obtain ⟨a0, a2⟩ := At.append.1 a0
  simp only [List.length_append, lowB_length, List.length_cons, List.length_nil, Nat.zero_add] at a2 a3 a4 a5
  rw [pAll_def, run_head headL 0 a0]
  show run B L (pNum 4 1 4294967295 k2) 4 = _
  rw [run_num (v := nf) a2 (by omega) (by omega) (by omega) hnf]
  show run B L (pNum 4 0 (nf - 1) fun m => pFns m nf [] (k3 m)) 8 = _
  rw [run_num (v := mm) a3 (by omega) (by omega) (by omega) (by omega)]
  have hG := fun k hk => OneOk.fnG h hni k hk
  rw [Int.toNat_natCast] at hG
  have e1 := fns_run (K := k3 mm) (fns_at a4) hG nf 0 (by omega)
  have e2 : run B L (pFns mm nf [] (k3 mm)) 12 = run B L (k3 mm (tabF Fs nf)) (12 + (fnsB Fs nf).length) := e1
  rw [show 8 + 4 = 12 from rfl, e2, k3, tabF_length]
  have a5' : At B L (12 + (fnsB Fs nf).length) (inssB X ni) := a5
  have e3 := body_run (K := fun xs => .done ⟨xs, tabF Fs nf, mm⟩) h hni (by omega) hI (inss_at a5') nf 0 (by omega) 0 rfl
  have e4 : run B L (pBody nf (tabF Fs nf) [] fun xs => .done ⟨xs, tabF Fs nf, mm⟩) (12 + (fnsB Fs nf).length) = run B L (.done ⟨tabX X ni, tabF Fs nf, mm⟩) (12 + (fnsB Fs nf).length + (inssB X ni).length) := e3
  rw [e4, Int.toNat_natCast, ← hlen, ← hL, run_done]
/-! ## back -/
theorem run_need {p n : Nat} {ok : List UInt8 → Prop} {f : List UInt8 → Pr} {c : Cd} (h : run B L (.need n ok f) p = .good c) : p + n ≤ L ∧ ok (slc B p n) ∧ run B L (f (slc B p n)) (p + n) = .good c := by
  by_cases h1 : p + n ≤ L
  · by_cases h2 : ok (slc B p n)
    · rw [run_step h1 h2] at h; exact ⟨h1, h2, h⟩
    · rw [run_wrong h1 h2] at h; cases h
  · rw [run_lack (by omega)] at h; cases h
theorem fn_inv {p mm : Nat} {fs : List Fn} {k : Fn → Pr} {c : Cd} (h : run B L (pFn mm fs k) p = .good c) : ∃ f, FnG mm fs f ∧ At B L p (fnB f) ∧ run B L (k f) (p + (fnB f).length) = .good c := by
  rw [pFn] at h
  obtain ⟨z, z1, z2, z3, az, h⟩ := num_run (by omega) h
  obtain ⟨hz, ⟨hn, hd⟩, h⟩ := run_need h
  obtain ⟨fr, f1, f2, f3, af, h⟩ := num_run (by omega) h
  obtain ⟨cn, c1, c2, c3, ac, h⟩ := num_run (by omega) h
  obtain ⟨pa, p1, p2, p3, ap, h⟩ := num_run (by omega) h
  have hsz := nameOf_size B (p + 1) z
  have hl := fnB_length ⟨nameOf (slc B (p + 1) z), (fr : Int), firstL fs, (cn : Int), (pa : Int)⟩
  have hdl : (nameOf (slc B (p + 1) z)).data.toList = slc B (p + 1) z := rfl
  refine ⟨⟨nameOf (slc B (p + 1) z), fr, firstL fs, cn, pa⟩, ⟨rfl, by show (2 : Int) ≤ fr; omega, by show (fr : Int) ≤ _; omega, by show (1 : Int) ≤ cn; omega, by show (cn : Int) ≤ _; omega, by show (0 : Int) ≤ pa; omega, ?_, hn, hd⟩, ?_, ?_⟩
  · show (pa : Int) ≤ if fs.length = mm then 0 else 8
    split
    · rename_i e; rw [if_pos e] at p2; omega
    · rename_i e; rw [if_neg e] at p2; omega
  · simp only [fnB]
    rw [hsz, hdl]
    rw [low1] at az
    refine At.cons.2 ⟨az, At.append.2 ⟨At.append.2 ⟨At.append.2 ⟨⟨by rw [slc_length]; exact hz, by rw [slc_length]⟩, ?_⟩, ?_⟩, ?_⟩⟩
    · rw [slc_length]; exact af
    · simp only [List.length_append, lowB_length, slc_length]; rw [← Nat.add_assoc]; exact ac
    · simp only [List.length_append, lowB_length, slc_length]; rw [← Nat.add_assoc, ← Nat.add_assoc]; exact ap
  · rw [hl, hsz, ← h]
    congr 1
    omega
theorem fns_inv {mm : Nat} {K : List Fn → Pr} {c : Cd} : ∀ r fs p, p ≤ L → FsOk mm fs → run B L (pFns mm r fs K) p = .good c → ∃ gs, gs.length = r ∧ FsOk mm (fs ++ gs) ∧ At B L p (gs.flatMap fnB) ∧ run B L (K (fs ++ gs)) (p + (gs.flatMap fnB).length) = .good c
  | 0, fs, p, hp, hs, h => ⟨[], rfl, by simpa using hs, At.nil hp, by simpa [pFns] using h⟩
  | r + 1, fs, p, hp, hs, h => by
    rw [pFns] at h
    obtain ⟨f, hf, ha, h⟩ := fn_inv h
    obtain ⟨gs, g1, g2, g3, g4⟩ := fns_inv r (fs ++ [f]) _ ha.1 (hs.snoc hf) h
    refine ⟨f :: gs, by simp [g1], by simpa using g2, ?_, ?_⟩
    · rw [List.flatMap_cons]; exact At.append.2 ⟨ha, g3⟩
    · rw [List.flatMap_cons, List.length_append, ← Nat.add_assoc]
      simpa using g4
theorem reg_inv {p : Nat} {u : Bool} {k : Nat → Pr} {c : Cd} (hp : p ≤ L) (h : run B L (pReg u k) p = .good c) : ∃ v : Nat, v ≤ 15 ∧ (u = false → v = 0) ∧ At B L p (if u then [Ytafhjpehkfcmjaa.u8 (v : Int)] else []) ∧ p + (if u then 1 else 0) ≤ L ∧ run B L (k v) (p + if u then 1 else 0) = .good c := by
  cases u with
  | false => exact ⟨0, by omega, fun _ => rfl, At.nil hp, hp, h⟩
  | true =>
    rw [pReg, if_pos rfl] at h
    obtain ⟨v, v1, v2, v3, av, h⟩ := num_run (by omega) h
    rw [low1] at av
    exact ⟨v, v2, fun h => by (cases h), av, av.1, h⟩
theorem in_inv {p nf : Nat} {f : Fn} {last : Bool} {k : Ins → Pr} {c : Cd} (hf : FnB f) (hnf : 1 ≤ nf) (hnf2 : nf ≤ 300000000) (h : run B L (pIn nf f last k) p = .good c) : ∃ x, InsIn x ∧ insOk nf f x = true ∧ (last = true → lastOk x.op = true) ∧ At B L p (insB x) ∧ run B L (k x) (p + (insB x).length) = .good c := by
  rw [pIn_rest] at h
  obtain ⟨h0, ⟨⟨u1, u2⟩, hl⟩, h⟩ := run_need h
  have hul := leN_lt (slc B p 1)
  rw [slc_length] at hul
  have ha0 : At B L p (lowB (leN (slc B p 1) : Int) 1) := ⟨by rw [lowB_length]; exact h0, by rw [lowB_length]; have := low_leN (l := slc B p 1) (by rw [slc_length]; omega); rw [slc_length] at this; exact this.symm⟩
  rw [low1] at ha0
  generalize leN (slc B p 1) = u at *
  obtain ⟨hu, e1, e2, e3, e4⟩ := op_cases u1 u2
  have hr := (shape_cases (u : Int)).2.1
  rw [pRest] at h
  obtain ⟨a, a1, a2, aa, la, h⟩ := reg_inv h0 h
  rw [pRest] at h
  obtain ⟨b, b1, b2, ab, lb, h⟩ := reg_inv la h
  rw [pRest] at h
  obtain ⟨d, d1, d2, ad, ld, h⟩ := reg_inv lb h
  have s0 : updN (updN (updN (fun _ => 0) (2 - 2) a) (2 - 1) b) (2 - 0) d 0 = a := rfl
  have s1 : updN (updN (updN (fun _ => 0) (2 - 2) a) (2 - 1) b) (2 - 0) d 1 = b := rfl
  have s2 : updN (updN (updN (fun _ => 0) (2 - 2) a) (2 - 1) b) (2 - 0) d 2 = d := rfl
  rw [pRest, s0, s1, s2] at h
  have fields : fieldOk (a : Int) (useBit (u : Int) 1) = true ∧ fieldOk (b : Int) (useBit (u : Int) 2) = true ∧ fieldOk (d : Int) (useBit (u : Int) 4) = true := by
    rw [e1, e2, e3]
    exact ⟨used_field a1 a2, used_field b1 b2, used_field d1 d2⟩
  have regs : ∀ n : Int, At B L (p + 1) (regsB ⟨(u : Int), (a : Int), (b : Int), (d : Int), n⟩ (regsOf (u : Int))) ∧ p + 1 + (if decide (2 - 2 < regsOf (u : Int)) then 1 else 0) + (if decide (2 - 1 < regsOf (u : Int)) then 1 else 0) + (if decide (2 - 0 < regsOf (u : Int)) then 1 else 0) = p + 1 + regsOf (u : Int) := by
    intro n
    generalize regsOf (u : Int) = rg at *
    match rg, hr with
    | 0, _ => exact ⟨At.nil h0, rfl⟩
    | 1, _ => exact ⟨aa, rfl⟩
    | 2, _ => exact ⟨At.append.2 ⟨aa, ab⟩, rfl⟩
    | 3, _ => exact ⟨At.append.2 ⟨At.append.2 ⟨aa, ab⟩, ad⟩, rfl⟩
    | n + 4, h => omega
  have hlen : ∀ n : Int, (insB ⟨(u : Int), (a : Int), (b : Int), (d : Int), n⟩).length = 1 + regsOf (u : Int) + if wideOf (u : Int) then 8 else 0 := fun n => insB_length ⟨(u : Int), (a : Int), (b : Int), (d : Int), n⟩
  have small : ∀ v : Nat, v ≤ 38 → i64in (v : Int) := fun v hv => ⟨by omega, by omega⟩
  cases hw : wideOf (u : Int) with
  | false =>
    rw [hw, if_neg (by decide), (regs 0).2] at h
    refine ⟨⟨u, a, b, d, 0⟩, ⟨small u u2, small a (by omega), small b (by omega), small d (by omega), i64in_zero⟩, ?_, hl, ?_, ?_⟩
    · unfold insOk
      have := noN_number nf f ⟨(u : Int), (a : Int), (b : Int), (d : Int), 0⟩ (by rw [← hw]; exact e4) hu
      simp only [hu, fields.1, fields.2.1, fields.2.2, this]
      rfl
    · simp only [insB]
      rw [hw, if_neg (by decide), List.append_nil]
      exact At.cons.2 ⟨ha0, (regs 0).1⟩
    · rw [hlen, hw, if_neg (by decide), ← h]
      congr 1
      omega
  | true =>
    rw [hw, if_pos rfl, (regs 0).2] at h
    obtain ⟨v, v1, v2, v3, av, h⟩ := num_run (by omega) h
    refine ⟨⟨u, a, b, d, IntKind.i64.wrap v⟩, ⟨small u u2, small a (by omega), small b (by omega), small d (by omega), wrap_in _⟩, ?_, hl, ?_, ?_⟩
    · unfold insOk
      simp only [hu, fields.1, fields.2.1, fields.2.2, num_bnd hf hnf hnf2 u2 hw v1 v2]
      rfl
    · simp only [insB]
      rw [hw, if_pos rfl]
      refine At.cons.2 ⟨ha0, At.append.2 ⟨(regs _).1, ?_⟩⟩
      rw [regsB_length]
      have : lowB (IntKind.i64.wrap (v : Int)) 8 = lowB (v : Int) 8 := by
        have := lowB_wrap (v : Int) 8
        rwa [show IntKind.u64.wrap (v : Int) = (v : Int) from by have := wrap_nat (v := v) (by omega); simp [IntKind.wrap, IntKind.signed, IntKind.bits]; omega] at this
      rw [this]
      exact av
    · rw [hlen, hw, if_pos rfl, ← h]
      congr 1
      omega
theorem ins_inv {nf : Nat} {f : Fn} {K : List Ins → Pr} {c : Cd} (hf : FnB f) (hnf : 1 ≤ nf) (hnf2 : nf ≤ 300000000) : ∀ r xs p, p ≤ L → run B L (pIns nf f r xs K) p = .good c → ∃ ys, ys.length = r ∧ (∀ y, y ∈ ys → InsIn y ∧ insOk nf f y = true) ∧ (∀ zs z, ys = zs ++ [z] → lastOk z.op = true) ∧ At B L p (ys.flatMap insB) ∧ run B L (K (xs ++ ys)) (p + (ys.flatMap insB).length) = .good c
  | 0, xs, p, hp, h => ⟨[], rfl, fun y hy => by simp at hy, fun zs z hz => by simp at hz, At.nil hp, by simpa [pIns] using h⟩
  | r + 1, xs, p, hp, h => by
    rw [pIns] at h
    obtain ⟨x, hx, ho, hl, ha, h⟩ := in_inv hf hnf hnf2 h
    obtain ⟨ys, y1, y2, y3, y4, y5⟩ := ins_inv hf hnf hnf2 r (xs ++ [x]) _ ha.1 h
    refine ⟨x :: ys, by simp [y1], ?_, ?_, ?_, ?_⟩
    · intro y hy
      rcases List.mem_cons.1 hy with rfl | hy
      · exact ⟨hx, ho⟩
      · exact y2 y hy
    · intro zs z hz
      cases zs with
      | nil =>
        injection hz with h1 h2
        subst h1 h2
        exact hl (by simpa using y1.symm)
      | cons w zs =>
        injection hz with h1 h2
        exact y3 zs z h2
    · rw [List.flatMap_cons]; exact At.append.2 ⟨ha, y4⟩
    · rw [List.flatMap_cons, List.length_append, ← Nat.add_assoc]
      simpa using y5
end
end Go.Proofs.Ytafhjpehkfcmjaa
