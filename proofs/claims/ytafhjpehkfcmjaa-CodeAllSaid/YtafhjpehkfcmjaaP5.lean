/- code's bytes: what reads is code, and is written so. Plain. -/
import Derived.Test.YtafhjpehkfcmjaaP4
import Derived.Test.YtafhjpehkfcmjaaW31
set_option linter.unusedVariables false
set_option linter.unusedSimpArgs false
namespace Go.Proofs.Ytafhjpehkfcmjaa
open Go.RowKit
def BodyOk (nf : Nat) : List Fn → List Ins → Prop
  | [], ys => ys = []
  | f :: gs, ys => ∃ y1 y2, ys = y1 ++ y2 ∧ y1.length = f.count.toNat ∧ (∀ y, y ∈ y1 → insOk nf f y = true) ∧ (∀ zs z, y1 = zs ++ [z] → lastOk z.op = true) ∧ BodyOk nf gs y2
section
variable {B : Nat → UInt8} {L : Nat}
theorem body_inv {nf : Nat} {K : List Ins → Pr} {c : Cd} (hnf : 1 ≤ nf) (hnf2 : nf ≤ 300000000) : ∀ gs xs p, p ≤ L → (∀ g, g ∈ gs → FnB g) → run B L (pBody nf gs xs K) p = .good c → ∃ ys, BodyOk nf gs ys ∧ (∀ y, y ∈ ys → InsIn y) ∧ At B L p (ys.flatMap insB) ∧ run B L (K (xs ++ ys)) (p + (ys.flatMap insB).length) = .good c
  | [], xs, p, hp, _, h => ⟨[], rfl, fun y hy => by simp at hy, At.nil hp, by simpa [pBody] using h⟩
  | f :: gs, xs, p, hp, hb, h => by
    rw [pBody] at h
    obtain ⟨y1, a1, a2, a3, a4, h⟩ := ins_inv (hb f (List.mem_cons_self ..)) hnf hnf2 _ xs p hp h
    obtain ⟨y2, b1, b2, b3, h⟩ := body_inv hnf hnf2 gs (xs ++ y1) _ a4.1 (fun g hg => hb g (List.mem_cons_of_mem _ hg)) h
    refine ⟨y1 ++ y2, ⟨y1, y2, rfl, a1, fun y hy => (a2 y hy).2, a3, b1⟩, ?_, ?_, ?_⟩
    · intro y hy
      rcases List.mem_append.1 hy with hy | hy
      · exact (a2 y hy).1
      · exact b2 y hy
    · rw [List.flatMap_append]; exact At.append.2 ⟨a4, b3⟩
    · rw [List.flatMap_append, List.length_append, ← Nat.add_assoc, ← List.append_assoc]; exact h
end
theorem fnF_take {fs : List Fn} {k : Nat} (h : k < fs.length) : fs.take (k + 1) = fs.take k ++ [fnF fs k] := by
  rw [List.take_succ_eq_append_getElem h]
  congr 2
  unfold fnF
  rw [List.getD_eq_getElem?_getD, List.getElem?_eq_getElem h]; rfl
theorem insF_take {xs : List Ins} {k : Nat} (h : k < xs.length) : xs.take (k + 1) = xs.take k ++ [insF xs k] := by
  rw [List.take_succ_eq_append_getElem h]
  congr 2
  unfold insF
  rw [List.getD_eq_getElem?_getD, List.getElem?_eq_getElem h]; rfl
theorem firstOf_fnF (fs : List Fn) : ∀ k, k ≤ fs.length → firstOf (fnF fs) k = firstL (fs.take k)
  | 0, _ => rfl
  | k + 1, h => by rw [firstOf, firstOf_fnF fs k (by omega), fnF_take (by omega), firstL_snoc]
theorem fnsB_fnF (fs : List Fn) : ∀ k, k ≤ fs.length → fnsB (fnF fs) k = (fs.take k).flatMap fnB
  | 0, _ => rfl
  | k + 1, h => by rw [fnsB, fnsB_fnF fs k (by omega), fnF_take (by omega), List.flatMap_append]; simp
theorem inssB_insF (xs : List Ins) : ∀ k, k ≤ xs.length → inssB (insF xs) k = (xs.take k).flatMap insB
  | 0, _ => rfl
  | k + 1, h => by rw [inssB, inssB_insF xs k (by omega), insF_take (by omega), List.flatMap_append]; simp
theorem insF_mid (xs0 y1 y2 : List Ins) (j : Nat) (h : j < y1.length) : ∃ y, y1[j]? = some y ∧ insF (xs0 ++ (y1 ++ y2)) (xs0.length + j) = y := by
  refine ⟨y1[j], List.getElem?_eq_getElem h, ?_⟩
  unfold insF
  rw [List.getD_eq_getElem?_getD, List.getElem?_append_right (by omega), Nat.add_sub_cancel_left, List.getElem?_append_left h, List.getElem?_eq_getElem h]; rfl
theorem fnF_mid (fs0 gs : List Fn) (f : Fn) : fnF (fs0 ++ f :: gs) fs0.length = f := by
  unfold fnF
  rw [List.getD_eq_getElem?_getD, List.getElem?_append_right (Nat.le_refl _), Nat.sub_self]; rfl
/-- The instructions, told by their numbers. -/
theorem body_index {nf : Nat} {fs : List Fn} {xs : List Ins} : ∀ (gs : List Fn) (ys : List Ins) (fs0 : List Fn) (xs0 : List Ins), fs = fs0 ++ gs → xs = xs0 ++ ys → (xs0.length : Int) = firstL fs0 → (∀ g, g ∈ gs → 1 ≤ g.count) → BodyOk nf gs ys →
    (xs.length : Int) = firstL fs ∧ ∀ k, fs0.length ≤ k → k < fs.length → firstOf (fnF fs) k + (fnF fs k).count ≤ (xs.length : Int) ∧ (∀ j, j < (fnF fs k).count.toNat → insOk nf (fnF fs k) (insF xs ((firstOf (fnF fs) k).toNat + j)) = true) ∧ lastOk (insF xs ((firstOf (fnF fs) k).toNat + ((fnF fs k).count.toNat - 1))).op = true
  | [], ys, fs0, xs0, hf, hx, hl, _, hb => by
    have hys : ys = [] := hb
    subst hys
    rw [List.append_nil] at hf hx
    subst hf hx
    exact ⟨hl, fun k h1 h2 => by omega⟩
  | f :: gs, ys, fs0, xs0, hf, hx, hl, hc, hb => by
    obtain ⟨y1, y2, rfl, h1, h2, h3, h4⟩ := hb
    have hf1 := hc f (List.mem_cons_self ..)
    have hcnt : ((y1.length : Nat) : Int) = f.count := by rw [h1]; omega
    have ih := body_index (fs := fs) (xs := xs) gs y2 (fs0 ++ [f]) (xs0 ++ y1) (by rw [hf]; simp) (by rw [hx]; simp) (by rw [List.length_append, firstL_snoc]; omega) (fun g hg => hc g (List.mem_cons_of_mem _ hg)) h4
    refine ⟨ih.1, fun k k1 k2 => ?_⟩
    by_cases e : k = fs0.length
    · subst e
      have hfk : fnF fs fs0.length = f := by rw [hf]; exact fnF_mid fs0 gs f
      have hfo : firstOf (fnF fs) fs0.length = (xs0.length : Int) := by
        rw [firstOf_fnF fs _ (by omega), hf, List.take_append_of_le_length (Nat.le_refl _), List.take_length, hl]
      rw [hfk, hfo, Int.toNat_natCast]
      have hxl : xs.length = xs0.length + (y1.length + y2.length) := by rw [hx]; simp
      refine ⟨by omega, fun j hj => ?_, ?_⟩
      · obtain ⟨y, hy1, hy2⟩ := insF_mid xs0 y1 y2 j (by omega)
        rw [hx, hy2]
        exact h2 y (List.mem_of_getElem? hy1)
      · obtain ⟨y, hy1, hy2⟩ := insF_mid xs0 y1 y2 (f.count.toNat - 1) (by omega)
        rw [hx, hy2]
        rcases List.eq_nil_or_concat y1 with rfl | ⟨t, z, rfl⟩
        · simp at hcnt; omega
        · rw [List.concat_eq_append] at hy1 h1 h3
          have ht : f.count.toNat - 1 = t.length := by rw [← h1]; simp
          rw [ht, List.getElem?_append_right (Nat.le_refl _), Nat.sub_self] at hy1
          injection hy1 with hy1
          rw [← hy1]
          exact h3 t z rfl
    · exact ih.2 k (by rw [List.length_append]; simp; omega) k2
theorem flat_fn_len : ∀ gs : List Fn, 14 * gs.length ≤ (gs.flatMap fnB).length
  | [] => by simp
  | f :: gs => by
    have := flat_fn_len gs
    have := fnB_length f
    rw [List.flatMap_cons, List.length_append, List.length_cons]; omega
theorem FsOk.all {m : Nat} {fs : List Fn} (h : FsOk m fs) {k : Nat} (hk : k < fs.length) : FnG m (fs.take k) (fnF fs k) := by
  refine h _ _ (fs.drop (k + 1)) ?_
  have : fs.drop k = fnF fs k :: fs.drop (k + 1) := by
    rw [List.drop_eq_getElem_cons hk]
    congr 1
    unfold fnF
    rw [List.getD_eq_getElem?_getD, List.getElem?_eq_getElem hk]; rfl
  rw [← this, List.take_append_drop]
def encC (c : Cd) : List UInt8 := enc c.ins.length (insF c.ins) c.fns.length (fnF c.fns) c.main
def OkC (c : Cd) : Prop := CodeOk c.ins.length (insF c.ins) c.fns.length (fnF c.fns) c.main
/-- What reads is code; the bytes are just those that are written of it. -/
theorem run_good {B : Nat → UInt8} {L : Nat} {c : Cd} (hL : L ≤ 300000000) (h : run B L pAll 0 = .good c) :
    OkC c ∧ (∀ x, x ∈ c.ins → InsIn x) ∧ (∀ f, f ∈ c.fns → FnIn f ∧ f.name.size ≤ 64) ∧ At B L 0 (encC c) ∧ L = (encC c).length := by
  rw [pAll_def] at h
  obtain ⟨a0, h⟩ := head_run headL 0 (Nat.zero_le _) h
  obtain ⟨n, n1, n2, n3, a1, h⟩ := num_run (by omega) h
  obtain ⟨m, m1, m2, m3, a2, h⟩ := num_run (by omega) h
  obtain ⟨fs, f1, f2, a3, h⟩ := fns_inv n [] _ a2.1 (FsOk.nil m) h
  rw [List.nil_append] at f2 h
  have hfl := flat_fn_len fs
  have ha3 := a3.1
  have hfs : fs.length ≤ 300000000 := by omega
  have hfb : ∀ g, g ∈ fs → FnB g := fun g hg => by
    obtain ⟨i, hi, rfl⟩ := mem_fnF hg
    exact (f2.all hi).fnB (by have := f2; rw [← List.take_append_drop i fs] at this; exact this.pre) (by rw [List.length_take]; omega)
  obtain ⟨xs, x1, x2, a4, h⟩ := body_inv (by omega) hfs fs [] _ a3.1 hfb h
  rw [List.nil_append] at h
  have hend : run B L (.done ⟨xs, fs, m⟩) (0 + headL.length + 4 + 4 + (fs.flatMap fnB).length + (xs.flatMap insB).length) = .good c := h
  by_cases e : 0 + headL.length + 4 + 4 + (fs.flatMap fnB).length + (xs.flatMap insB).length = L
  · rw [e, run_done] at hend
    injection hend with hend
    subst hend
    have hix := body_index (fs := fs) (xs := xs) fs xs [] [] rfl rfl rfl (fun g hg => (hfb g hg).cn1) x1
    have e1 : fnsB (fnF fs) fs.length = fs.flatMap fnB := by rw [fnsB_fnF fs _ (Nat.le_refl _), List.take_length]
    have e2 : inssB (insF xs) xs.length = xs.flatMap insB := by rw [inssB_insF xs _ (Nat.le_refl _), List.take_length]
    have hfo : firstOf (fnF fs) fs.length = (xs.length : Int) := by rw [firstOf_fnF fs _ (Nat.le_refl _), List.take_length, hix.1]
    have henc : encC ⟨xs, fs, m⟩ = headL ++ lowB (n : Int) 4 ++ lowB (m : Int) 4 ++ fs.flatMap fnB ++ xs.flatMap insB := by
      unfold encC enc
      simp only
      rw [e1, e2, f1]
      rfl
    refine ⟨⟨fun k hk => ?_, hfo, by show (0 : Int) ≤ m; omega, by show (m : Int) < fs.length; omega, ?_⟩, x2, fun f hf => ?_, ?_, ?_⟩
    · obtain ⟨g1, g2, g3, g4, g5, g6, g7, g8, g9⟩ := f2.all hk
      obtain ⟨i1, i2, i3⟩ := hix.2 k (Nat.zero_le _) hk
      refine ⟨?_, g4, by show (fnF fs k).count ≤ (xs.length : Int) - firstOf (fnF fs) k; omega, fun j hj he => ?_, g8, g2, g3, g6, ?_, i2, i3⟩
      · rw [firstOf_fnF fs k (Nat.le_of_lt hk)]; exact g1
      · refine g9 (fnF fs j) ?_ he
        have hj2 : j < (fs.take k).length := by rw [List.length_take]; have : k < fs.length := hk; omega
        have : fnF (fs.take k) j = fnF fs j := by unfold fnF; rw [List.getD_eq_getElem?_getD, List.getD_eq_getElem?_getD, List.getElem?_take, if_pos hj]
        rw [← this]
        exact fnF_mem hj2
      · show (fnF fs k).params ≤ 8
        split at g7 <;> omega
    · show (fnF fs ((m : Int)).toNat).params = 0
      rw [Int.toNat_natCast]
      have hm : m < fs.length := by omega
      obtain ⟨g1, g2, g3, g4, g5, g6, g7, g8, g9⟩ := f2.all hm
      rw [List.length_take, if_pos (by omega)] at g7
      omega
    · obtain ⟨i, hi, rfl⟩ := mem_fnF hf
      exact ⟨(hfb _ hf).in_, (f2.all hi).2.2.2.2.2.2.2.1.2.1⟩
    · rw [henc]
      refine At.append.2 ⟨At.append.2 ⟨At.append.2 ⟨At.append.2 ⟨a0, a1⟩, ?_⟩, ?_⟩, ?_⟩
      · rw [List.length_append, lowB_length, ← Nat.add_assoc]; exact a2
      · simp only [List.length_append, lowB_length, ← Nat.add_assoc]; exact a3
      · simp only [List.length_append, lowB_length, ← Nat.add_assoc]; exact a4
    · rw [henc]
      simp only [List.length_append, lowB_length]
      omega
  · rw [run_rest _ e] at hend; cases hend
end Go.Proofs.Ytafhjpehkfcmjaa
