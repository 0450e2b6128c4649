/- In the bytes of code one function gets another one's name: what the bytes are then, and where the fault is. Plain. -/
import Derived.Test.YtafhjpehkfcmjaaP4
set_option linter.unusedVariables false
set_option linter.unusedSimpArgs false
namespace Go.Proofs.Ytafhjpehkfcmjaa
open Go.RowKit
def renF (Fs : Nat → Fn) (i j : Nat) (k : Nat) : Fn := if k = j then ⟨(Fs i).name, (Fs j).frame, (Fs j).first, (Fs j).count, (Fs j).params⟩ else Fs k
theorem renF_at (Fs : Nat → Fn) (i j : Nat) : renF Fs i j j = ⟨(Fs i).name, (Fs j).frame, (Fs j).first, (Fs j).count, (Fs j).params⟩ := if_pos rfl
theorem renF_off (Fs : Nat → Fn) (i : Nat) {j k : Nat} (h : k ≠ j) : renF Fs i j k = Fs k := if_neg h
theorem renF_count (Fs : Nat → Fn) (i j k : Nat) : (renF Fs i j k).count = (Fs k).count := by
  by_cases h : k = j
  · subst h; rw [renF_at]
  · rw [renF_off Fs i h]
theorem renF_first (Fs : Nat → Fn) (i j : Nat) : ∀ k, firstOf (renF Fs i j) k = firstOf Fs k
  | 0 => rfl
  | k + 1 => by rw [firstOf, renF_first Fs i j k, renF_count, firstOf]
/-- A head, behind its name. -/
def fnR (f : Fn) : List UInt8 := lowB f.frame 8 ++ lowB f.count 4 ++ lowB f.params 1
theorem fnB_eq (f : Fn) : fnB f = u8 f.name.size :: (f.name.data.toList ++ fnR f) := by simp [fnB, fnR]
theorem fnsB_pre (Fs : Nat → Fn) (i j : Nat) : ∀ k, k ≤ j → fnsB (renF Fs i j) k = fnsB Fs k
  | 0, _ => rfl
  | k + 1, h => by rw [fnsB, fnsB_pre Fs i j k (by omega), renF_off Fs i (by omega), fnsB]
theorem fnsB_part (Fs : Nat → Fn) (i j : Nat) : ∀ n, j < n → ∃ post, fnsB Fs n = fnsB Fs j ++ fnB (Fs j) ++ post ∧ fnsB (renF Fs i j) n = fnsB Fs j ++ fnB (renF Fs i j j) ++ post
  | 0, h => by omega
  | n + 1, h => by
    by_cases e : n = j
    · subst e
      exact ⟨[], by rw [fnsB, List.append_nil], by rw [fnsB, fnsB_pre Fs i n n (Nat.le_refl _), List.append_nil]⟩
    · obtain ⟨post, h1, h2⟩ := fnsB_part Fs i j n (by omega)
      exact ⟨post ++ fnB (Fs n), by rw [fnsB, h1, List.append_assoc _ post], by rw [fnsB, h2, renF_off Fs i e, List.append_assoc _ post]⟩
/-- The bytes of code, parted at a name; and with another name there. -/
theorem enc_part (ni : Nat) (X : Nat → Ins) (nf : Nat) (Fs : Nat → Fn) (m : Int) (i j : Nat) (hj : j < nf) : ∃ pre post : List UInt8, pre.length = 12 + (fnsB Fs j).length ∧
    enc ni X nf Fs m = pre ++ (u8 (Fs j).name.size :: ((Fs j).name.data.toList ++ post)) ∧ enc ni X nf (renF Fs i j) m = pre ++ (u8 (Fs i).name.size :: ((Fs i).name.data.toList ++ post)) := by
  obtain ⟨post, h1, h2⟩ := fnsB_part Fs i j nf hj
  have hf : fnR (renF Fs i j j) = fnR (Fs j) := by rw [renF_at]; rfl
  have hn : (renF Fs i j j).name = (Fs i).name := by rw [renF_at]
  refine ⟨[113, 114, 49, 54] ++ lowB nf 4 ++ lowB m 4 ++ fnsB Fs j, fnR (Fs j) ++ post ++ inssB X ni, ?_, ?_, ?_⟩
  · simp only [List.length_append, lowB_length, List.length_cons, List.length_nil]
  · rw [enc, h1, fnB_eq]; simp [List.append_assoc]
  · rw [enc, h2, fnB_eq, hf, hn]; simp [List.append_assoc]
section
variable {B : Nat → UInt8} {L : Nat}
theorem fns_upto {mm p : Nat} {Fs : Nat → Fn} {K : List Fn → Pr} {r : Nat} (hA : ∀ k, k < p → At B L (12 + (fnsB Fs k).length) (fnB (Fs k))) (hG : ∀ k, k < p → FnG mm (tabF Fs k) (Fs k)) :
    ∀ d k, k + d = p → run B L (pFns mm (d + r) (tabF Fs k) K) (12 + (fnsB Fs k).length) = run B L (pFns mm r (tabF Fs p) K) (12 + (fnsB Fs p).length)
  | 0, k, h => by
    obtain rfl : k = p := by omega
    rw [Nat.zero_add]
  | d + 1, k, h => by
    rw [show d + 1 + r = (d + r) + 1 by omega, pFns, fn_run (hG k (by omega)) (hA k (by omega)), ← tabF_succ]
    have := fns_upto (K := K) (r := r) hA hG d (k + 1) (by omega)
    rw [fnsB, List.length_append, ← Nat.add_assoc] at this
    exact this
/-- A name that stood ahead is the fault. -/
theorem fn_name_bad {p mm : Nat} {fs : List Fn} {f : Fn} {k : Fn → Pr} (h : At B L p (fnB f)) (h1 : 1 ≤ f.name.size) (h2 : f.name.size ≤ 64) (hx : ∃ g, g ∈ fs ∧ g.name = f.name) : run B L (pFn mm fs k) p = .bad (p + 1) := by
  have hsz : f.name.data.toList.length = f.name.size := by rw [Array.length_toList]; rfl
  rw [fnB_eq] at h
  obtain ⟨a0, a1⟩ := At.cons.1 h
  obtain ⟨a1, _⟩ := At.append.1 a1
  have b0 : At B L p (lowB (f.name.size : Int) 1) := by rw [low1]; exact a0
  obtain ⟨c1, c2⟩ := a1
  rw [hsz] at c1 c2
  have hnm : nameOf (slc B (p + 1) f.name.size) = f.name := by
    rw [c2]
    exact name_eq.2 rfl
  rw [pFn, run_num b0 (by omega) (by omega) h1 h2, run_wrong (by omega) ?_]
  rintro ⟨_, hd⟩
  obtain ⟨g, hg, he⟩ := hx
  exact hd g hg (by rw [hnm]; exact he)
theorem run_renamed {ni : Nat} {X : Nat → Ins} {nf : Nat} {Fs : Nat → Fn} {m : Int} {i j : Nat} (h : CodeOk ni X nf Fs m) (hni : ni ≤ 4294967295) (hnf : nf ≤ 4294967295) (hi : i < nf) (hj : j < nf) (hne : i ≠ j)
    (hA : At B L 0 (enc ni X nf (renF Fs i j) m)) : run B L pAll 0 = .bad (12 + (fnsB (renF Fs i j) (max i j)).length + 1) := by
  obtain ⟨mm, hm⟩ := nat_of h.2.2.1
  subst hm
  have hmn := h.2.2.2.1
  unfold enc at hA
  obtain ⟨a0, a5⟩ := At.append.1 hA
  obtain ⟨a0, a4⟩ := At.append.1 a0
  obtain ⟨a0, a3⟩ := At.append.1 a0
  obtain ⟨a0, a2⟩ := At.append.1 a0
  simp only [List.length_append, lowB_length, List.length_cons, List.length_nil, Nat.zero_add] at a2 a3 a4 a5
  rw [pAll_def, run_head headL 0 a0]
  show run B L (pNum 4 1 4294967295 k2) 4 = _
  rw [run_num (v := nf) a2 (by omega) (by omega) (by omega) hnf]
  show run B L (pNum 4 0 (nf - 1) fun m => pFns m nf [] (k3 m)) 8 = _
  rw [run_num (v := mm) a3 (by omega) (by omega) (by omega) (by omega)]
  have hG := fun k hk => OneOk.fnG h hni k hk
  rw [Int.toNat_natCast] at hG
  have hnames : ∀ a b, a < nf → b < nf → a ≠ b → (Fs a).name ≠ (Fs b).name := by
    intro a b ha hb hab
    rcases Nat.lt_or_ge a b with hl | hl
    · exact (h.1 b hb).2.2.2.1 a hl
    · exact fun e => (h.1 a ha).2.2.2.1 b (by omega) e.symm
  have hp : max i j < nf := by omega
  -- the heads ahead of the later one are good
  have hG' : ∀ k, k < max i j → FnG mm (tabF (renF Fs i j) k) (renF Fs i j k) := by
    intro k hk
    have hname : (renF Fs i j k).name = (Fs (if k = j then i else k)).name := by
      by_cases e : k = j
      · subst e; rw [renF_at, if_pos rfl]
      · rw [renF_off Fs i e, if_neg e]
    have hidx : (if k = j then i else k) < nf := by split <;> omega
    obtain ⟨g1, g2, g3, g4, g5, g6, g7, g8, g9⟩ := hG k (by omega)
    have gi := (hG _ hidx)
    have hrest : (renF Fs i j k).frame = (Fs k).frame ∧ (renF Fs i j k).first = (Fs k).first ∧ (renF Fs i j k).count = (Fs k).count ∧ (renF Fs i j k).params = (Fs k).params := by
      by_cases e : k = j
      · subst e; rw [renF_at]; exact ⟨rfl, rfl, rfl, rfl⟩
      · rw [renF_off Fs i e]; exact ⟨rfl, rfl, rfl, rfl⟩
    obtain ⟨r1, r2, r3, r4⟩ := hrest
    obtain ⟨_, _, _, _, _, _, _, i8, _⟩ := gi
    refine ⟨by rw [r2, firstL_tab, renF_first, ← firstL_tab]; exact g1, by rw [r1]; exact g2, by rw [r1]; exact g3, by rw [r3]; exact g4, by rw [r3]; exact g5, by rw [r4]; exact g6, by rw [r4, tabF_length]; rw [tabF_length] at g7; exact g7, by rw [hname]; exact i8, ?_⟩
    intro g hg
    obtain ⟨t, ht, rfl⟩ := List.mem_map.1 hg
    have ht := List.mem_range.1 ht
    have hname2 : (renF Fs i j t).name = (Fs (if t = j then i else t)).name := by
      by_cases e : t = j
      · subst e; rw [renF_at, if_pos rfl]
      · rw [renF_off Fs i e, if_neg e]
    rw [hname, hname2]
    refine hnames _ _ (by split <;> omega) hidx ?_
    split <;> split <;> omega
  have e1 := fns_upto (K := k3 mm) (r := nf - max i j - 1 + 1) (fun k hk => fns_at a4 k (by omega)) hG' (max i j) 0 (by omega)
  rw [show max i j + (nf - max i j - 1 + 1) = nf by omega] at e1
  have e2 : run B L (pFns mm nf [] (k3 mm)) 12 = run B L (pFns mm (nf - max i j - 1 + 1) (tabF (renF Fs i j) (max i j)) (k3 mm)) (12 + (fnsB (renF Fs i j) (max i j)).length) := e1
  rw [show 8 + 4 = 12 from rfl, e2, pFns]
  have hat := fns_at a4 (max i j) hp
  have hmx : (renF Fs i j (max i j)).name = (Fs i).name := by
    by_cases e : max i j = j
    · rw [e, renF_at]
    · rw [renF_off Fs i e, show max i j = i by omega]
  obtain ⟨_, _, _, _, _, _, _, i8, _⟩ := hG i hi
  refine fn_name_bad hat (by rw [hmx]; exact i8.1) (by rw [hmx]; exact i8.2.1) ⟨renF Fs i j (min i j), ?_, ?_⟩
  · exact List.mem_map.2 ⟨min i j, List.mem_range.2 (by omega), rfl⟩
  · rw [hmx]
    by_cases e : min i j = j
    · rw [e, renF_at]
    · rw [renF_off Fs i e, show min i j = i by omega]
end
end Go.Proofs.Ytafhjpehkfcmjaa
