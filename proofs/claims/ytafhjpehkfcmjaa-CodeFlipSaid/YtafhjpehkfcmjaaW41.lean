/- CodeFlip: the plain law and the walk. -/
import Derived.Test.YtafhjpehkfcmjaaW40
set_option linter.unusedVariables false
set_option linter.unusedSimpArgs false
namespace Go.Proofs.Ytafhjpehkfcmjaa
open Go.RowKit
attribute [local go_sem ↓] Go.wp_at_zero Go.wp_at_succ
theorem fnsB_congr {Fs Fs' : Nat → Fn} : ∀ n, (∀ k, k < n → Fs k = Fs' k) → fnsB Fs n = fnsB Fs' n
  | 0, _ => rfl
  | n + 1, h => by rw [fnsB, fnsB, fnsB_congr n (fun k hk => h k (by omega)), h n (Nat.lt_succ_self n)]
theorem inssB_congr {X X' : Nat → Ins} : ∀ n, (∀ k, k < n → X k = X' k) → inssB X n = inssB X' n
  | 0, _ => rfl
  | n + 1, h => by rw [inssB, inssB, inssB_congr n (fun k hk => h k (by omega)), h n (Nat.lt_succ_self n)]
theorem enc_same {ni : Nat} {X : Nat → Ins} {nf : Nat} {Fs : Nat → Fn} {m : Int} {ni' : Nat} {X' : Nat → Ins} {nf' : Nat} {Fs' : Nat → Fn} {m' : Int} (h : SameP ni X nf Fs m ni' X' nf' Fs' m') : enc ni X nf Fs m = enc ni' X' nf' Fs' m' := by
  obtain ⟨rfl, rfl, rfl, h1, h2⟩ := h
  unfold enc
  rw [fnsB_congr nf h2, inssB_congr ni h1]
theorem lstF_set {l : List UInt8} {k : Nat} {b : UInt8} (hk : k < l.length) (i : Nat) : lstF (l.set k b) i = if i = k then b else lstF l i := by
  unfold lstF
  rw [List.getD_eq_getElem?_getD, List.getD_eq_getElem?_getD, List.getElem?_set]
  by_cases e : k = i
  · subst e; simp [hk]
  · simp [e, show ¬ i = k from fun h => e h.symm]
theorem flip_good {ni : Nat} {X : Nat → Ins} {nf : Nat} {Fs : Nat → Fn} {m : Int} {k : Nat} {b : UInt8} {cd : Cd} (hk : k < (enc ni X nf Fs m).length) (hL : (enc ni X nf Fs m).length ≤ 300000000) (hb : lstF (enc ni X nf Fs m) k ≠ b)
    (h : run (lstF ((enc ni X nf Fs m).set k b)) (enc ni X nf Fs m).length pAll 0 = .good cd) : ¬ SameP ni X nf Fs m cd.ins.length (insF cd.ins) cd.fns.length (fnF cd.fns) cd.main := by
  intro hs
  obtain ⟨_, _, _, ha, hl⟩ := run_good hL h
  have he : enc ni X nf Fs m = encC cd := enc_same hs
  have e2 := ha.2
  rw [← he] at e2
  have e3 : slc (lstF ((enc ni X nf Fs m).set k b)) 0 (enc ni X nf Fs m).length = (enc ni X nf Fs m).set k b := by
    have := (at_lst ((enc ni X nf Fs m).set k b)).2
    rwa [List.length_set] at this
  rw [e3] at e2
  apply hb
  have e4 := lstF_set (b := b) hk k
  rw [if_pos rfl, e2] at e4
  exact e4
theorem flip_bad {ni : Nat} {X : Nat → Ins} {nf : Nat} {Fs : Nat → Fn} {m : Int} {k q : Nat} {b : UInt8} (hok : CodeOk ni X nf Fs m) (hI : ∀ a, a < ni → InsIn (X a)) (hni : ni ≤ 50000) (hnf : nf ≤ 1000) (hk : k < (enc ni X nf Fs m).length)
    (h : run (lstF ((enc ni X nf Fs m).set k b)) (enc ni X nf Fs m).length pAll 0 = .bad q) : q ≤ (enc ni X nf Fs m).length ∧ k < q + 64 := by
  refine ⟨(run_bad_le pAll 0 (Nat.zero_le _) h).2, Nat.lt_of_not_le fun hq => ?_⟩
  have h2 := run_bad_near (B' := lstF (enc ni X nf Fs m)) pAll 0 Sm_all (Nat.zero_le _) h (fun i hi => by rw [lstF_set hk, if_neg (by omega)])
  rw [enc_run hok hI (by omega) (by omega) (at_lst _) rfl] at h2
  cases h2
theorem BR.put {w : World} {H n cap g k : Nat} {l : List UInt8} {b : UInt8} (h : BR w H (.slice (some ⟨g, 0, none⟩) n cap) l) : BR (w.setCell ⟨g, k, none⟩ (.int .u8 (b.toNat : Int))) H (.slice (some ⟨g, 0, none⟩) n cap) (l.set k b) := by
  obtain ⟨A', cap', e, _⟩ := own_shape h
  injection e with e1 e2 e3
  subst e2
  have := (World.ownsRow.stored h k (.int .u8 (b.toNat : Int))).1
  unfold BR byts at *
  rw [List.length_set, List.map_set]
  exact this
/-- Where the flip falls. -/
theorem flip_at (n1 : Int) {L : Nat} (hL : 0 < L) : ∃ kk : Nat, kk < L ∧ -(L : Int) < n1.tmod L ∧ n1.tmod L < L ∧ ((n1.tmod L < 0 ∧ n1.tmod L + L = kk) ∨ (0 ≤ n1.tmod L ∧ n1.tmod L = kk)) := by
  have h1 := Int.tmod_lt_of_pos n1 (b := (L : Int)) (by omega)
  have h2 := Int.lt_tmod_of_pos n1 (b := (L : Int)) (by omega)
  by_cases h : n1.tmod L < 0
  · exact ⟨(n1.tmod L + L).toNat, by omega, h2, h1, .inl ⟨h, by omega⟩⟩
  · exact ⟨(n1.tmod L).toNat, by omega, h2, h1, .inr ⟨by omega, by omega⟩⟩
end Go.Proofs.Ytafhjpehkfcmjaa
