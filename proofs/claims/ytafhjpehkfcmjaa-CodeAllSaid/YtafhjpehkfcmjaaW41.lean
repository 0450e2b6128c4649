/- CodeBack: the walk. CodeFlip: the plain law and the walk. -/
import Derived.Test.YtafhjpehkfcmjaaW39
set_option linter.unusedVariables false
set_option linter.unusedSimpArgs false
namespace Go.Proofs.Ytafhjpehkfcmjaa
open Go.RowKit
attribute [local go_sem ↓] Go.wp_at_zero Go.wp_at_succ
theorem fnsB_max (Fs : Nat → Fn) : ∀ n, (∀ k, k < n → (Fs k).name.size ≤ 64) → (fnsB Fs n).length ≤ 78 * n
  | 0, _ => by simp [fnsB]
  | n + 1, h => by
    have h1 := fnsB_max Fs n (fun k hk => h k (by omega))
    have h2 := fnB_length (Fs n)
    have h3 := h n (Nat.lt_succ_self n)
    rw [fnsB, List.length_append]; omega
theorem enc_max {ni : Nat} {X : Nat → Ins} {nf : Nat} {Fs : Nat → Fn} {m : Int} (h : CodeOk ni X nf Fs m) (h1 : ni ≤ 50000) (h2 : nf ≤ 1000) : (enc ni X nf Fs m).length ≤ 1000000 := by
  have h3 := fnsB_max Fs nf h.names
  have h4 := inssB_le X ni
  rw [enc_length]; omega
theorem insF_tab (X : Nat → Ins) {n i : Nat} (hi : i < n) : insF (tabX X n) i = X i := by
  unfold insF tabX
  rw [List.getD_eq_getElem?_getD, List.getElem?_map, List.getElem?_range hi]; rfl
theorem fnF_tab (X : Nat → Fn) {n i : Nat} (hi : i < n) : fnF (tabF X n) i = X i := by
  unfold fnF tabF
  rw [List.getD_eq_getElem?_getD, List.getElem?_map, List.getElem?_range hi]; rfl
theorem read_back {w : World} {H : Nat} {v : Value} {G : Nat → Prop} {A : Option Addr} {ni : Nat} {X : Nat → Ins} {nf : Nat} {Fs : Nat → Fn} {m : Int} (hv : BR w H v (enc ni X nf Fs m)) (hok : CodeOk ni X nf Fs m) (hi : IL w G A ni X) (h1 : ni ≤ 50000) (h2 : nf ≤ 1000) :
    Calls Try.prog 17 #[v] w fun e w' => ∃ A' c1 B' c2, e = .returned (.tuple #[.agg #[.slice A' ni c1, .slice B' nf c2, .int .i64 m], .int .i64 0, .int .i64 0]) ∧ ni ≤ c1 ∧ nf ≤ c2 ∧
      IL w' (fun b => b < w'.heap.size) A' ni (insF (tabX X ni)) ∧ FL w' (fun b => b < w'.heap.size) B' nf (fnF (tabF Fs nf)) ∧ Below w.heap.size w w' := by
  have hm := enc_max hok h1 h2
  obtain ⟨V, cv, rfl, k1, k2, _⟩ := own_shape hv
  have hrun := enc_run (B := lstF (enc ni X nf Fs m)) hok (fun a ha => (hi.2 a ha).1) (by omega) (by omega) (at_lst _) rfl
  unfold maxLen at k2
  refine (read_c w _ (fun b h => h) V _ cv (lstF (enc ni X nf Fs m)) hv.bl (by omega) k1 (by omega)).mono ?_
  rintro e w' ⟨hb, ⟨h, _⟩ | ⟨_, q, hq, _⟩ | ⟨_, cd, iv, fv, hq, rfl, hi', hf'⟩⟩
  · omega
  · rw [hrun] at hq; cases hq
  · obtain ⟨A', c1, B', c2, rfl, rfl, l1, l2, hil, hfl⟩ := read_laid (by omega) hq hi' hf'
    rw [hrun] at hq
    injection hq with hq
    subst hq
    have e1 : (tabX X ni).length = ni := tabX_length X ni
    have e2 : (tabF Fs nf).length = nf := tabF_length Fs nf
    have e3 : ((m.toNat : Nat) : Int) = m := Int.toNat_of_nonneg hok.2.2.1
    simp only [e1, e2, e3] at *
    exact ⟨A', c1, B', c2, rfl, l1, l2, hil, hfl, hb⟩
theorem same_back {w : World} {G G' : Nat → Prop} {A : Option Addr} {ni ci : Nat} {X : Nat → Ins} {B : Option Addr} {nf cf : Nat} {Fs : Nat → Fn} {m : Int} {A' : Option Addr} {ci' : Nat} {B' : Option Addr} {cf' : Nat}
    (hi : IL w G A ni X) (hf : FL w G B nf Fs) (hi' : IL w G' A' ni (insF (tabX X ni))) (hf' : FL w G' B' nf (fnF (tabF Fs nf))) (hm : i64in m) (hci : ni ≤ ci) (hci' : ni ≤ ci') (hcf : nf ≤ cf) (hcf' : nf ≤ cf') :
    Calls Try.prog 20 #[.agg #[.slice A ni ci, .slice B nf cf, .int .i64 m], .agg #[.slice A' ni ci', .slice B' nf cf', .int .i64 m]] w fun e w' => e = .returned (.bool true) ∧ Below w.heap.size w w' := by
  refine (same_c w _ _ A ni ci X B nf cf Fs m A' ni ci' _ B' nf cf' _ m hi hf hi' hf' hm hm hci hci' hcf hcf').mono ?_
  rintro e w' ⟨r, rfl, hr, hb⟩
  obtain rfl : r = true := hr.2 ⟨rfl, rfl, rfl, fun i hi => (insF_tab X hi).symm, fun k hk => (fnF_tab Fs hk).symm⟩
  exact ⟨rfl, hb⟩
set_option maxRecDepth 100000 in
set_option maxHeartbeats 16000000 in
theorem back_c (w : World) (G : Nat → Prop) (hG : ∀ b, G b → b < w.heap.size) (A : Option Addr) (ni ci : Nat) (X : Nat → Ins) (B : Option Addr) (nf cf : Nat) (Fs : Nat → Fn) (m : Int) (hi : IL w G A ni X) (hf : FL w G B nf Fs) (hci : ni ≤ ci) (hcf : nf ≤ cf) (hm : i64in m) :
    Calls Try.prog 6 #[codeV A ni ci B nf cf m] w fun e w' => e = .returned (.bool true) ∧ Below w.heap.size w w' := by
  have S0 : Hid (CB w (w.alloc (.cells #[.slice A ni ci, .slice B nf cf, .int .i64 m] 25)) G A ni ci X B nf cf Fs m) := CB.start hi hf
  have HG := Lib.hid hG
  have HM := Lib.hid hm
  clear hi hf hG hm
  unfold codeV
  go_enter Try.func6, Try.ntmps6
  go_wp2_with fail
  refine (fits_c _ G A ni ci X B nf cf Fs m S0.out.il S0.out.fl hci hcf).mono ?_
  rintro e w2 ⟨r, rfl, hr, hb2⟩
  have S2 := Lib.hid (S0.out.on hb2)
  clear hb2 S0
  cases r with
  | false =>
    clear hr
    go_wp2_with fail
    go_ret
    exact ⟨rfl, S2.out.below⟩
  | true =>
    obtain ⟨n1, n2⟩ := hr rfl
    go_wp2_with fail
    refine (alive_c w2).mono ?_
    rintro e w3 ⟨rfl, hb3⟩
    have S3 := Lib.hid (S2.out.on hb3)
    clear hb3 S2 hr
    have c0 : w3.cell? ⟨w.heap.size, 0, none⟩ = some (.slice A ni ci) := S3.out.b1.cell 0
    have c1 : w3.cell? ⟨w.heap.size, 1, none⟩ = some (.slice B nf cf) := S3.out.b1.cell 1
    have c2 : w3.cell? ⟨w.heap.size, 2, none⟩ = some (.int .i64 m) := S3.out.b1.cell 2
    have hl3 := S3.out.b1.lt
    go_wp2_with fail
    have hG3 : ∀ b, G b → b < w3.heap.size := fun b hb => Nat.lt_trans (HG.out b hb) hl3
    refine (write_c w3 G hG3 A ni ci X B nf cf Fs m S3.out.il hci S3.out.fl hcf HM.out (by omega) (by omega)).mono ?_
    clear hG3
    rintro e w4 ⟨v, r, rfl, hb4, ⟨rfl, hok, hv⟩ | ⟨rfl, hn, rfl⟩⟩
    · have S4 := Lib.hid (S3.out.on hb4)
      have V4 := Lib.hid hv
      have OK := Lib.hid hok
      clear hb4 hv hok S3 c0 c1 c2 hl3
      go_wp2_with (go_at_call 22; refine (num_c _ _).mono ?_; rintro e w9 ⟨rfl, rfl⟩)
      refine (read_back V4.out OK.out S4.out.il n1 n2).mono ?_
      rintro e w5 ⟨A', c1, B', c2, rfl, l1, l2, hil, hfl, hb5⟩
      have S5 := Lib.hid (S4.out.on hb5)
      have I5 := Lib.hid hil
      have F5 := Lib.hid hfl
      clear hil hfl hb5 S4 V4 OK
      have hb6 := (Below.refl w5.heap.size w5).alloc (Nat.le_refl _) (.cells #[.slice A' ni c1, .slice B' nf c2, .int .i64 m] 25)
      have S6 := Lib.hid (S5.out.on hb6)
      have I6 := Lib.hid (I5.out.below hb6)
      have F6 := Lib.hid (F5.out.below hb6)
      have d0 : (w5.alloc (.cells #[.slice A' ni c1, .slice B' nf c2, .int .i64 m] 25)).cell? ⟨w.heap.size, 0, none⟩ = some (.slice A ni ci) := S6.out.b1.cell 0
      have d1 : (w5.alloc (.cells #[.slice A' ni c1, .slice B' nf c2, .int .i64 m] 25)).cell? ⟨w.heap.size, 1, none⟩ = some (.slice B nf cf) := S6.out.b1.cell 1
      have d2 : (w5.alloc (.cells #[.slice A' ni c1, .slice B' nf c2, .int .i64 m] 25)).cell? ⟨w.heap.size, 2, none⟩ = some (.int .i64 m) := S6.out.b1.cell 2
      have hl6 := S6.out.b1.lt
      clear hb6 S5 I5 F5
      go_wp2_with (go_at_call 22; refine (num_c _ _).mono ?_; rintro e w9 ⟨rfl, rfl⟩)
      refine (same_back S6.out.il S6.out.fl I6.out F6.out HM.out hci l1 hcf l2).mono ?_
      rintro e w7 ⟨rfl, hb7⟩
      have B7 := Lib.hid (S6.out.below.trans (hb7.mono S6.out.below.size))
      clear hb7 S6 I6 F6 d0 d1 d2 hl6
      go_wp2_with fail
      go_ret
      exact ⟨rfl, B7.out⟩
    · have S4 := Lib.hid (S3.out.on hb4)
      clear hb4 S3 hn c0 c1 c2 hl3
      go_wp2_with (go_at_call 22; refine (num_c _ _).mono ?_; rintro e w9 ⟨rfl, rfl⟩)
      go_ret
      exact ⟨rfl, S4.out.below⟩
end Go.Proofs.Ytafhjpehkfcmjaa
namespace Go.Proofs.Ytafhjpehkfcmjaa
open Go.RowKit
attribute [local go_sem ↓] Go.wp_at_zero Go.wp_at_succ
theorem fnsB_congr {Fs Fs' : Nat → Fn} : ∀ n, (∀ k, k < n → Fs k = Fs' k) → fnsB Fs n = fnsB Fs' n
  | 0, _ => rfl
  | n + 1, h => by rw [fnsB, fnsB, fnsB_congr n (fun k hk => h k (by omega)), h n (Nat.lt_succ_self n)]
theorem inssB_congr {X X' : Nat → Ins} : ∀ n, (∀ k, k < n → X k = X' k) → inssB X n = inssB X' n
  | 0, _ => rfl
  | n + 1, h => by rw [inssB, inssB, inssB_congr n (fun k hk => h k (by omega)), h n (Nat.lt_succ_self n)]
theorem enc_same {ni : Nat} {X : Nat → Ins} {nf : Nat} {Fs : Nat → Fn} {m : Int} {ni' : Nat} {X' : Nat → Ins} {nf' : Nat} {Fs' : Nat → Fn} {m' : Int} (h : SameP ni X nf Fs m ni' X' nf' Fs' m') : enc ni X nf Fs m = enc ni' X' nf' Fs' m' := by
  obtain ⟨rfl, rfl, rfl, h1, h2⟩ := h
  unfold enc
  rw [fnsB_congr nf h2, inssB_congr ni h1]
theorem lstF_set {l : List UInt8} {k : Nat} {b : UInt8} (hk : k < l.length) (i : Nat) : lstF (l.set k b) i = if i = k then b else lstF l i := by
  unfold lstF
  rw [List.getD_eq_getElem?_getD, List.getD_eq_getElem?_getD, List.getElem?_set]
  by_cases e : k = i
  · subst e; simp [hk]
  · simp [e, show ¬ i = k from fun h => e h.symm]
theorem flip_good {ni : Nat} {X : Nat → Ins} {nf : Nat} {Fs : Nat → Fn} {m : Int} {k : Nat} {b : UInt8} {cd : Cd} (hk : k < (enc ni X nf Fs m).length) (hL : (enc ni X nf Fs m).length ≤ 300000000) (hb : lstF (enc ni X nf Fs m) k ≠ b)
    (h : run (lstF ((enc ni X nf Fs m).set k b)) (enc ni X nf Fs m).length pAll 0 = .good cd) : ¬ SameP ni X nf Fs m cd.ins.length (insF cd.ins) cd.fns.length (fnF cd.fns) cd.main := by
  intro hs
  obtain ⟨_, _, _, ha, hl⟩ := run_good hL h
  have he : enc ni X nf Fs m = encC cd := enc_same hs
  have e2 := ha.2
  rw [← he] at e2
  have e3 : slc (lstF ((enc ni X nf Fs m).set k b)) 0 (enc ni X nf Fs m).length = (enc ni X nf Fs m).set k b := by
    have := (at_lst ((enc ni X nf Fs m).set k b)).2
    rwa [List.length_set] at this
  rw [e3] at e2
  apply hb
  have e4 := lstF_set (b := b) hk k
  rw [if_pos rfl, e2] at e4
  exact e4
theorem flip_bad {ni : Nat} {X : Nat → Ins} {nf : Nat} {Fs : Nat → Fn} {m : Int} {k q : Nat} {b : UInt8} (hok : CodeOk ni X nf Fs m) (hI : ∀ a, a < ni → InsIn (X a)) (hni : ni ≤ 50000) (hnf : nf ≤ 1000) (hk : k < (enc ni X nf Fs m).length)
    (h : run (lstF ((enc ni X nf Fs m).set k b)) (enc ni X nf Fs m).length pAll 0 = .bad q) : q ≤ (enc ni X nf Fs m).length ∧ k < q + 64 := by
  refine ⟨(run_bad_le pAll 0 (Nat.zero_le _) h).2, Nat.lt_of_not_le fun hq => ?_⟩
  have h2 := run_bad_near (B' := lstF (enc ni X nf Fs m)) pAll 0 Sm_all (Nat.zero_le _) h (fun i hi => by rw [lstF_set hk, if_neg (by omega)])
  rw [enc_run hok hI (by omega) (by omega) (at_lst _) rfl] at h2
  cases h2
theorem BR.put {w : World} {H n cap g k : Nat} {l : List UInt8} {b : UInt8} (h : BR w H (.slice (some ⟨g, 0, none⟩) n cap) l) : BR (w.setCell ⟨g, k, none⟩ (.int .u8 (b.toNat : Int))) H (.slice (some ⟨g, 0, none⟩) n cap) (l.set k b) := by
  obtain ⟨A', cap', e, _⟩ := own_shape h
  injection e with e1 e2 e3
  subst e2
  have := (World.ownsRow.stored h k (.int .u8 (b.toNat : Int))).1
  unfold BR byts at *
  rw [List.length_set, List.map_set]
  exact this
/-- Where the flip falls. -/
theorem flip_at (n1 : Int) {L : Nat} (hL : 0 < L) : ∃ kk : Nat, kk < L ∧ -(L : Int) < n1.tmod L ∧ n1.tmod L < L ∧ ((n1.tmod L < 0 ∧ n1.tmod L + L = kk) ∨ (0 ≤ n1.tmod L ∧ n1.tmod L = kk)) := by
  have h1 := Int.tmod_lt_of_pos n1 (b := (L : Int)) (by omega)
  have h2 := Int.lt_tmod_of_pos n1 (b := (L : Int)) (by omega)
  by_cases h : n1.tmod L < 0
  · exact ⟨(n1.tmod L + L).toNat, by omega, h2, h1, .inl ⟨h, by omega⟩⟩
  · exact ⟨(n1.tmod L).toNat, by omega, h2, h1, .inr ⟨by omega, by omega⟩⟩
end Go.Proofs.Ytafhjpehkfcmjaa
