/- the laws' same, num, sample: walks. -/
import Derived.Test.YtafhjpehkfcmjaaW34
import Derived.Test.YtafhjpehkfcmjaaP5
set_option linter.unusedVariables false
set_option linter.unusedSimpArgs false
namespace Go.Proofs.Ytafhjpehkfcmjaa
open Go.RowKit
attribute [local go_sem ↓] Go.wp_at_zero Go.wp_at_succ
theorem ext5 {x y : Ins} (h0 : x.op = y.op) (h1 : x.a = y.a) (h2 : x.b = y.b) (h3 : x.c = y.c) (h4 : x.n = y.n) : x = y := by cases x; cases y; simp_all
theorem extF {x y : Fn} (h0 : x.name = y.name) (h1 : x.frame = y.frame) (h2 : x.first = y.first) (h3 : x.count = y.count) (h4 : x.params = y.params) : x = y := by cases x; cases y; simp_all
def SameP (ni : Nat) (X : Nat → Ins) (nf : Nat) (Fs : Nat → Fn) (m : Int) (ni' : Nat) (X' : Nat → Ins) (nf' : Nat) (Fs' : Nat → Fn) (m' : Int) : Prop :=
  m = m' ∧ ni = ni' ∧ nf = nf' ∧ (∀ i, i < ni → X i = X' i) ∧ ∀ k, k < nf → Fs k = Fs' k
structure SS (w wr : World) (G G' : Nat → Prop) (A : Option Addr) (ni : Nat) (X : Nat → Ins) (B : Option Addr) (nf : Nat) (Fs : Nat → Fn) (A' : Option Addr) (ni' : Nat) (X' : Nat → Ins) (B' : Option Addr) (nf' : Nat) (Fs' : Nat → Fn) (c1 c2 : Array Value) : Prop where
  b1 : Blk wr w.heap.size 25 c1
  b2 : Blk wr (w.heap.size + 1) 25 c2
  il : IL wr G A ni X
  fl : FL wr G B nf Fs
  il2 : IL wr G' A' ni' X'
  fl2 : FL wr G' B' nf' Fs'
  below : Below w.heap.size w wr
theorem SS.quiet {w wr w2 : World} {G G' : Nat → Prop} {A : Option Addr} {ni : Nat} {X : Nat → Ins} {B : Option Addr} {nf : Nat} {Fs : Nat → Fn} {A' : Option Addr} {ni' : Nat} {X' : Nat → Ins} {B' : Option Addr} {nf' : Nat} {Fs' : Nat → Fn} {c1 c2 : Array Value} (h : SS w wr G G' A ni X B nf Fs A' ni' X' B' nf' Fs' c1 c2) (o : Only (fun _ => False) wr w2) : SS w w2 G G' A ni X B nf Fs A' ni' X' B' nf' Fs' c1 c2 :=
  ⟨h.b1.only o (fun h => h), h.b2.only o (fun h => h), h.il.only o (fun _ _ _ h => h), h.fl.only o (fun _ _ _ h => h), h.il2.only o (fun _ _ _ h => h), h.fl2.only o (fun _ _ _ h => h), h.below.trans (o.toBelow h.below.size fun _ _ h => h)⟩
set_option maxRecDepth 100000 in
set_option maxHeartbeats 16000000 in
theorem same_c (w : World) (G G' : Nat → Prop) (A : Option Addr) (ni ci : Nat) (X : Nat → Ins) (B : Option Addr) (nf cf : Nat) (Fs : Nat → Fn) (m : Int) (A' : Option Addr) (ni' ci' : Nat) (X' : Nat → Ins) (B' : Option Addr) (nf' cf' : Nat) (Fs' : Nat → Fn) (m' : Int) (hi : IL w G A ni X) (hf : FL w G B nf Fs) (hi' : IL w G' A' ni' X') (hf' : FL w G' B' nf' Fs') (hm : i64in m) (hm' : i64in m') (hci : ni ≤ ci) (hci' : ni' ≤ ci') (hcf : nf ≤ cf) (hcf' : nf' ≤ cf') :
    Calls Try.prog 20 #[codeV A ni ci B nf cf m, codeV A' ni' ci' B' nf' cf' m'] w fun e w' => ∃ r, e = .returned (.bool r) ∧ (r = true ↔ SameP ni X nf Fs m ni' X' nf' Fs' m') ∧ Below w.heap.size w w' := by
  have BAD : Hid (¬ SameP ni X nf Fs m ni' X' nf' Fs' m' → ∀ w', Below w.heap.size w w' → ∃ r, (Ending.returned (.bool false)) = .returned (.bool r) ∧ (r = true ↔ SameP ni X nf Fs m ni' X' nf' Fs' m') ∧ Below w.heap.size w w') := fun hn w' hw => ⟨false, rfl, ⟨fun h => (by cases h), fun h => absurd h hn⟩, hw⟩
  have GOOD : Hid (SameP ni X nf Fs m ni' X' nf' Fs' m' → ∀ w', Below w.heap.size w w' → ∃ r, (Ending.returned (.bool true)) = .returned (.bool r) ∧ (r = true ↔ SameP ni X nf Fs m ni' X' nf' Fs' m') ∧ Below w.heap.size w w') := fun hn w' hw => ⟨true, rfl, ⟨fun _ => hn, fun _ => rfl⟩, hw⟩
  have S0 : Hid (SS w ((w.alloc (.cells #[.slice A ni ci, .slice B nf cf, .int .i64 m] 25)).alloc (.cells #[.slice A' ni' ci', .slice B' nf' cf', .int .i64 m'] 25)) G G' A ni X B nf Fs A' ni' X' B' nf' Fs' #[.slice A ni ci, .slice B nf cf, .int .i64 m] #[.slice A' ni' ci', .slice B' nf' cf', .int .i64 m']) := by
    have z : (w.alloc (.cells #[.slice A ni ci, .slice B nf cf, .int .i64 m] 25)).heap.size = w.heap.size + 1 := by simp
    have b2 := Blk.new (w.alloc (.cells #[.slice A ni ci, .slice B nf cf, .int .i64 m] 25)) 25 #[.slice A' ni' ci', .slice B' nf' cf', .int .i64 m']
    rw [z] at b2
    have o : Only (fun _ => False) w ((w.alloc (.cells #[.slice A ni ci, .slice B nf cf, .int .i64 m] 25)).alloc (.cells #[.slice A' ni' ci', .slice B' nf' cf', .int .i64 m'] 25)) := ((Only.refl _ w).alloc _).alloc _
    exact ⟨(Blk.new w 25 _).alloc _, b2, hi.only o (fun _ _ _ h => h), hf.only o (fun _ _ _ h => h), hi'.only o (fun _ _ _ h => h), hf'.only o (fun _ _ _ h => h), ba (ba (Below.refl _ _) _) _⟩
  have hni := hi.1
  have hnf := hf.1
  have hni' := hi'.1
  have hnf' := hf'.1
  obtain ⟨m1, m2⟩ := hm
  obtain ⟨m3, m4⟩ := hm'
  clear hi hf hi' hf'
  unfold codeV
  by_cases e1 : m = m'
  case neg =>
    have E := Lib.hid (BAD.out (fun h => e1 h.1) _ S0.out.below)
    clear BAD GOOD
    have e1' : (m != m') = true := by simp [e1]
    go_enter Try.func20, Try.ntmps20
    go_wp2_with fail
    go_ret
    exact E.out
  subst e1
  by_cases e2 : ni = ni'
  case neg =>
    have E := Lib.hid (BAD.out (fun h => e2 h.2.1) _ S0.out.below)
    clear BAD GOOD
    have e2' : ((ni : Int) != (ni' : Int)) = true := by rw [bne_iff_ne]; omega
    go_enter Try.func20, Try.ntmps20
    go_wp2_with fail
    go_ret
    exact E.out
  subst e2
  by_cases e3 : nf = nf'
  case neg =>
    have E := Lib.hid (BAD.out (fun h => e3 h.2.2.1) _ S0.out.below)
    clear BAD GOOD
    have e3' : ((nf : Int) != (nf' : Int)) = true := by rw [bne_iff_ne]; omega
    go_enter Try.func20, Try.ntmps20
    go_wp2_with fail
    go_ret
    exact E.out
  subst e3
  go_enter Try.func20, Try.ntmps20
  go_wp2_with fail
  go_loopw [5] (fun jv wx => ∃ j : Nat, j ≤ ni ∧ jv = .int .i64 (j : Int) ∧ Hid (SS w wx G G' A ni X B nf Fs A' ni X' B' nf Fs' #[.slice A ni ci, .slice B nf cf, .int .i64 m] #[.slice A' ni ci', .slice B' nf cf', .int .i64 m]) ∧ Hid (∀ t, t < j → X t = X' t)) (fun jv _ => ni - (intOf jv).toNat)
  case atStart => exact ⟨0, by omega, rfl, S0, fun t ht => absurd ht (Nat.not_lt_zero _)⟩
  case round =>
    clear S0
    obtain ⟨j, hj, rfl, S, HE⟩ := hrel
    have cA : wr.cell? ⟨w.heap.size, 0, none⟩ = some (.slice A ni ci) := S.out.b1.cell 0
    have cA2 : wr.cell? ⟨w.heap.size + 1, 0, none⟩ = some (.slice A' ni ci') := S.out.b2.cell 0
    have cB : wr.cell? ⟨w.heap.size, 1, none⟩ = some (.slice B nf cf) := S.out.b1.cell 1
    have cB2 : wr.cell? ⟨w.heap.size + 1, 1, none⟩ = some (.slice B' nf cf') := S.out.b2.cell 1
    have hl1 := S.out.b1.lt
    have hl2 := S.out.b2.lt
    by_cases hjl : j < ni
    · obtain ⟨_, b, off, rfl, _, hbl, k0, k1, k2, k3, k4⟩ := S.out.il.2 j hjl
      obtain ⟨_, b', off', rfl, _, hbl', k0_, k1_, k2_, k3_, k4_⟩ := S.out.il2.2 j hjl
      by_cases hx : X j = X' j
      · rw [← hx] at k0_ k1_ k2_ k3_ k4_
        have S2 : Hid (∀ q, SS w (wr.drewN q) G G' (some ⟨b, off, none⟩) ni X B nf Fs (some ⟨b', off', none⟩) ni X' B' nf Fs' #[.slice (some ⟨b, off, none⟩) ni ci, .slice B nf cf, .int .i64 m] #[.slice (some ⟨b', off', none⟩) ni ci', .slice B' nf cf', .int .i64 m]) := fun q => S.out.quiet ((Only.refl _ wr).drewN q)
        have HE2 : Hid (∀ t, t < j + 1 → X t = X' t) := fun t ht => by
          by_cases e : t = j
          · rw [e]; exact hx
          · exact HE.out t (by omega)
        clear S HE hx BAD GOOD
        go_wp2_with fail
        go_quiet (fail)
        go_wp2_with fail
        go_roundw
        case rel => exact ⟨j + 1, by omega, by go_num, S2.out _, HE2⟩
        case measure => first | (simp [intOf]; done) | (simp [intOf]; omega)
      · have E : Hid (∀ q, ∃ r, (Ending.returned (.bool false)) = .returned (.bool r) ∧ (r = true ↔ SameP ni X nf Fs m ni X' nf Fs' m) ∧ Below w.heap.size w (wr.drewN q)) := fun q => BAD.out (fun h => hx (h.2.2.2.1 j hjl)) _ (S.out.quiet ((Only.refl _ wr).drewN q)).below
        by_cases hfop : (X j).op = (X' j).op
        case neg =>
          have hqop : ((X j).op == (X' j).op) = false := beq_eq_false_iff_ne.2 hfop
          clear BAD GOOD HE S hx hfop
          go_wp2_with fail
          go_quiet (fail)
          go_wp2_with fail
          go_ret
          exact E.out _
        rw [← hfop] at k0_
        by_cases hfa : (X j).a = (X' j).a
        case neg =>
          have hqa : ((X j).a == (X' j).a) = false := beq_eq_false_iff_ne.2 hfa
          clear BAD GOOD HE S hx hfa
          go_wp2_with fail
          go_quiet (fail)
          go_wp2_with fail
          go_ret
          exact E.out _
        rw [← hfa] at k1_
        by_cases hfb : (X j).b = (X' j).b
        case neg =>
          have hqb : ((X j).b == (X' j).b) = false := beq_eq_false_iff_ne.2 hfb
          clear BAD GOOD HE S hx hfb
          go_wp2_with fail
          go_quiet (fail)
          go_wp2_with fail
          go_ret
          exact E.out _
        rw [← hfb] at k2_
        by_cases hfc : (X j).c = (X' j).c
        case neg =>
          have hqc : ((X j).c == (X' j).c) = false := beq_eq_false_iff_ne.2 hfc
          clear BAD GOOD HE S hx hfc
          go_wp2_with fail
          go_quiet (fail)
          go_wp2_with fail
          go_ret
          exact E.out _
        rw [← hfc] at k3_
        by_cases hfn : (X j).n = (X' j).n
        case neg =>
          have hqn : ((X j).n == (X' j).n) = false := beq_eq_false_iff_ne.2 hfn
          clear BAD GOOD HE S hx hfn
          go_wp2_with fail
          go_quiet (fail)
          go_wp2_with fail
          go_ret
          exact E.out _
        exact absurd (ext5 hfop hfa hfb hfc hfn) hx
    · have hjn : j = ni := by omega
      subst hjn
      go_wp2_with fail
      clear cA cA2 cB cB2 hl1 hl2
      have S3 := S
      have HX := HE
      clear S HE
      go_loopw [6] (fun kv wx => ∃ k : Nat, k ≤ nf ∧ kv = .int .i64 (k : Int) ∧ Hid (SS w wx G G' A j X B nf Fs A' j X' B' nf Fs' #[.slice A j ci, .slice B nf cf, .int .i64 m] #[.slice A' j ci', .slice B' nf cf', .int .i64 m]) ∧ Hid (∀ t, t < k → Fs t = Fs' t)) (fun kv _ => nf - (intOf kv).toNat)
      case atStart => exact ⟨0, by omega, rfl, S3, fun t ht => absurd ht (Nat.not_lt_zero _)⟩
      case round =>
        clear S3
        obtain ⟨k, hk, rfl, S, HE⟩ := hrel
        have cB : wr.cell? ⟨w.heap.size, 1, none⟩ = some (.slice B nf cf) := S.out.b1.cell 1
        have cB2 : wr.cell? ⟨w.heap.size + 1, 1, none⟩ = some (.slice B' nf cf') := S.out.b2.cell 1
        have hl1 := S.out.b1.lt
        have hl2 := S.out.b2.lt
        by_cases hkl : k < nf
        · obtain ⟨_, _, b, off, rfl, _, hbl, k0, k1, k2, k3, k4⟩ := S.out.fl.2 k hkl
          obtain ⟨_, _, b', off', rfl, _, hbl', k0_, k1_, k2_, k3_, k4_⟩ := S.out.fl2.2 k hkl
          by_cases hx : Fs k = Fs' k
          · rw [← hx] at k0_ k1_ k2_ k3_ k4_
            have S2 : Hid (∀ q, SS w (wr.drewN q) G G' A j X (some ⟨b, off, none⟩) nf Fs A' j X' (some ⟨b', off', none⟩) nf Fs' #[.slice A j ci, .slice (some ⟨b, off, none⟩) nf cf, .int .i64 m] #[.slice A' j ci', .slice (some ⟨b', off', none⟩) nf cf', .int .i64 m]) := fun q => S.out.quiet ((Only.refl _ wr).drewN q)
            have HE2 : Hid (∀ t, t < k + 1 → Fs t = Fs' t) := fun t ht => by
              by_cases e : t = k
              · rw [e]; exact hx
              · exact HE.out t (by omega)
            clear S HE hx BAD GOOD
            go_wp2_with fail
            go_quiet (fail)
            go_wp2_with fail
            go_roundw
            case rel => exact ⟨k + 1, by omega, by go_num, S2.out _, HE2⟩
            case measure => first | (simp [intOf]; done) | (simp [intOf]; omega)
          · have E : Hid (∀ q, ∃ r, (Ending.returned (.bool false)) = .returned (.bool r) ∧ (r = true ↔ SameP j X nf Fs m j X' nf Fs' m) ∧ Below w.heap.size w (wr.drewN q)) := fun q => BAD.out (fun h => hx (h.2.2.2.2 k hkl)) _ (S.out.quiet ((Only.refl _ wr).drewN q)).below
            by_cases hfname : (Fs k).name = (Fs' k).name
            case neg =>
              have hqname : (((Fs k).name).toList == ((Fs' k).name).toList) = false := beq_eq_false_iff_ne.2 (fun e => hfname (name_eq.2 (by rwa [ByteArray.toList_eq, ByteArray.toList_eq] at e)))
              clear BAD GOOD HE S hx hfname
              go_wp2_with fail
              go_quiet (fail)
              go_wp2_with fail
              go_ret
              exact E.out _
            rw [← hfname] at k0_
            by_cases hfframe : (Fs k).frame = (Fs' k).frame
            case neg =>
              have hqframe : ((Fs k).frame == (Fs' k).frame) = false := beq_eq_false_iff_ne.2 hfframe
              clear BAD GOOD HE S hx hfframe
              go_wp2_with fail
              go_quiet (fail)
              go_wp2_with fail
              go_ret
              exact E.out _
            rw [← hfframe] at k1_
            by_cases hffirst : (Fs k).first = (Fs' k).first
            case neg =>
              have hqfirst : ((Fs k).first == (Fs' k).first) = false := beq_eq_false_iff_ne.2 hffirst
              clear BAD GOOD HE S hx hffirst
              go_wp2_with fail
              go_quiet (fail)
              go_wp2_with fail
              go_ret
              exact E.out _
            rw [← hffirst] at k2_
            by_cases hfcount : (Fs k).count = (Fs' k).count
            case neg =>
              have hqcount : ((Fs k).count == (Fs' k).count) = false := beq_eq_false_iff_ne.2 hfcount
              clear BAD GOOD HE S hx hfcount
              go_wp2_with fail
              go_quiet (fail)
              go_wp2_with fail
              go_ret
              exact E.out _
            rw [← hfcount] at k3_
            by_cases hfparams : (Fs k).params = (Fs' k).params
            case neg =>
              have hqparams : ((Fs k).params == (Fs' k).params) = false := beq_eq_false_iff_ne.2 hfparams
              clear BAD GOOD HE S hx hfparams
              go_wp2_with fail
              go_quiet (fail)
              go_wp2_with fail
              go_ret
              exact E.out _
            exact absurd (extF hfname hfframe hffirst hfcount hfparams) hx
        · have hkn : k = nf := by omega
          subst hkn
          have E := Lib.hid (GOOD.out ⟨rfl, rfl, rfl, HX.out, HE.out⟩ _ S.out.below)
          clear BAD GOOD S HE HX
          go_wp2_with fail
          go_ret
          exact E.out
end Go.Proofs.Ytafhjpehkfcmjaa
