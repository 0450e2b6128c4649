/- CodeNames: the walk. -/
import Derived.Test.YtafhjpehkfcmjaaW44
import Derived.Test.YtafhjpehkfcmjaaP6
set_option linter.unusedVariables false
set_option linter.unusedSimpArgs false
namespace Go.Proofs.Ytafhjpehkfcmjaa
open Go.RowKit
attribute [local go_sem ↓] Go.wp_at_zero Go.wp_at_succ
theorem BL.drop {w : World} {G : Nat → Prop} {g n : Nat} {S : Nat → UInt8} (h : BL w G (some ⟨g, 0, none⟩) n S) (k : Nat) : BL w G (some ⟨g, k, none⟩) (n - k) (fun i => S (k + i)) := fun i hi => by
  obtain ⟨b, off, e, h1, h2, h3⟩ := h (k + i) (by omega)
  injection e with e
  injection e with e1 e2 _
  subst e1 e2
  rw [Nat.zero_add] at h3
  exact ⟨_, _, rfl, h1, h2, h3⟩
theorem BL.dropIf {w : World} {G : Nat → Prop} {g n : Nat} {S : Nat → UInt8} (h : BL w G (some ⟨g, 0, none⟩) n S) (k cv : Nat) (hc : n ≤ cv) : BL w G (if cv = k then some ⟨g, 0, none⟩ else some ⟨g, k, none⟩) (n - k) (fun i => S (k + i)) := by
  split
  · intro i hi; omega
  · exact h.drop k
theorem drop_part (pre post nm : List UInt8) (b : UInt8) : (pre ++ (b :: (nm ++ post))).drop (pre.length + 1 + nm.length) = post := by
  have h : pre ++ (b :: (nm ++ post)) = (pre ++ b :: nm) ++ post := by simp
  have h2 : pre.length + 1 + nm.length = (pre ++ b :: nm).length := by simp; omega
  rw [h, h2, List.drop_left]
theorem lst_drop (l : List UInt8) (k : Nat) : slc (fun i => lstF l (k + i)) 0 (l.length - k) = l.drop k := by
  have h1 := slc_lst l l.length (Nat.le_refl _)
  rw [List.take_length] at h1
  rcases Nat.lt_or_ge l.length k with hk | hk
  · rw [show l.length - k = 0 by omega, List.drop_eq_nil_of_le (by omega)]; rfl
  · have h2 := slc_add (lstF l) 0 k (l.length - k)
    rw [show k + (l.length - k) = l.length by omega, h1, slc_lst l k hk] at h2
    have h3 : slc (lstF l) (0 + k) (l.length - k) = l.drop k := by
      have h4 := List.take_append_drop k l
      exact (List.append_cancel_left (h4.trans h2)).symm
    rw [← h3]
    exact List.map_congr_left fun i _ => by simp
theorem ren_len (Fs : Nat → Fn) (i j : Nat) (hne : i ≠ j) : (i < j → (fnsB (renF Fs i j) (max i j)).length = (fnsB Fs j).length) ∧ (j < i → (fnsB (renF Fs i j) (max i j)).length + (Fs j).name.size = (fnsB Fs i).length + (Fs i).name.size) := by
  constructor
  · intro h
    rw [show max i j = j by omega, fnsB_pre Fs i j j (Nat.le_refl _)]
  · intro h
    obtain ⟨post, h1, h2⟩ := fnsB_part Fs i j i h
    rw [show max i j = i by omega, h1, h2]
    simp only [List.length_append, fnB_length, renF_at]
    omega
theorem size_list (b : ByteArray) : b.data.toList.length = b.size := by rw [Array.length_toList]; rfl
/-- The bytes, the answer's row, where the heads begin. -/
structure NS (w wr : World) (G : Nat → Prop) (A : Option Addr) (ni ci : Nat) (X : Nat → Ins) (B : Option Addr) (nf cf : Nat) (Fs : Nat → Fn) (m : Int) (H g L cv : Nat) (l : List UInt8) (gb : Nat) (a b : Int) : Prop where
  cb : CB w wr G A ni ci X B nf cf Fs m
  v : BR wr H (.slice (some ⟨g, 0, none⟩) L cv) l
  ft : Blk wr gb 51 #[.int .i64 a, .int .i64 b]
  hgb : w.heap.size < gb
  ne : g ≠ gb
section
variable {w wr w2 : World} {G : Nat → Prop} {A B : Option Addr} {ni ci nf cf : Nat} {X : Nat → Ins} {Fs : Nat → Fn} {m : Int} {H g L cv gb : Nat} {l : List UInt8} {a b : Int}
theorem CB.put2 (h : CB w wr G A ni ci X B nf cf Fs m) (hG : ∀ b, G b → b < w.heap.size) (hg : w.heap.size < gb) (o : Only (fun b => b = gb) wr w2) : CB w w2 G A ni ci X B nf cf Fs m :=
  ⟨h.b1.only o (by omega), h.il.only o (fun b _ hb e => by have := hG b hb; omega), h.fl.only o (fun b _ hb e => by have := hG b hb; omega), h.below.trans (o.toBelow h.below.size (fun k hk e => by omega))⟩
theorem NS.put (h : NS w wr G A ni ci X B nf cf Fs m H g L cv l gb a b) (hG : ∀ b, G b → b < w.heap.size) (k : Nat) (u : Value) {a' b' : Int} (hu : (#[.int .i64 a, .int .i64 b] : Array Value).setIfInBounds k u = #[.int .i64 a', .int .i64 b']) :
    NS w (wr.setCell ⟨gb, k, none⟩ u).drew G A ni ci X B nf cf Fs m H g L cv l gb a' b' := by
  have o : Only (fun b => b = gb) wr (wr.setCell ⟨gb, k, none⟩ u).drew := ((Only.refl (fun b => b = gb) wr).setCell (.inl rfl) u).drew
  have hb := (h.ft.set_ k u).drew
  rw [hu] at hb
  exact ⟨h.cb.put2 hG h.hgb o, h.v.only o (fun b e e2 => by subst e2; simp [Value.ownBlock] at e; exact h.ne e), hb, h.hgb, h.ne⟩
theorem NS.quiet (h : NS w wr G A ni ci X B nf cf Fs m H g L cv l gb a b) (o : Only (fun _ => False) wr w2) : NS w w2 G A ni ci X B nf cf Fs m H g L cv l gb a b :=
  ⟨h.cb.on (o.toBelow (Nat.le_refl _) (fun _ _ h => h)), h.v.only o (fun _ _ h => h), h.ft.only o (fun h => h), h.hgb, h.ne⟩
end
set_option maxRecDepth 100000 in
set_option maxHeartbeats 16000000 in
theorem names_c (w : World) (G : Nat → Prop) (hG : ∀ b, G b → b < w.heap.size) (A : Option Addr) (ni ci : Nat) (X : Nat → Ins) (B : Option Addr) (nf cf : Nat) (Fs : Nat → Fn) (m : Int) (hi : IL w G A ni X) (hf : FL w G B nf Fs) (hci : ni ≤ ci) (hcf : nf ≤ cf) (hm : i64in m) (n1 : Int) (hn1 : i64in n1) (n2 : Int) (hn2 : i64in n2) :
    Calls Try.prog 9 #[codeV A ni ci B nf cf m, .int .i64 n1, .int .i64 n2] w fun e w' => e = .returned (.bool true) ∧ Below w.heap.size w w' := by
  have S0 : Hid (CB w (w.alloc (.cells #[.slice A ni ci, .slice B nf cf, .int .i64 m] 25)) G A ni ci X B nf cf Fs m) := CB.start hi hf
  have HG := Lib.hid hG
  have HM := Lib.hid hm
  obtain ⟨n1a, n1b⟩ := hn1
  obtain ⟨n2a, n2b⟩ := hn2
  clear hi hf hG hm
  unfold codeV
  go_enter Try.func9, Try.ntmps9
  go_wp2_with fail
  refine (fits_c _ G A ni ci X B nf cf Fs m S0.out.il S0.out.fl hci hcf).mono ?_
  rintro e w2 ⟨r, rfl, hr, hb2⟩
  have S2 := Lib.hid (S0.out.on hb2)
  clear hb2 S0
  cases r with
  | false =>
    clear hr
    go_wp2_with fail
    go_ret
    exact ⟨rfl, S2.out.below⟩
  | true =>
    obtain ⟨n1', n2'⟩ := hr rfl
    go_wp2_with fail
    refine (alive_c w2).mono ?_
    rintro e w3 ⟨rfl, hb3⟩
    have S3 := Lib.hid (S2.out.on hb3)
    clear hb3 S2 hr
    have c0 : w3.cell? ⟨w.heap.size, 0, none⟩ = some (.slice A ni ci) := S3.out.b1.cell 0
    have c1 : w3.cell? ⟨w.heap.size, 1, none⟩ = some (.slice B nf cf) := S3.out.b1.cell 1
    have c2 : w3.cell? ⟨w.heap.size, 2, none⟩ = some (.int .i64 m) := S3.out.b1.cell 2
    have hl3 := S3.out.b1.lt
    go_wp2_with fail
    have hG3 : ∀ b, G b → b < w3.heap.size := fun b hb => Nat.lt_trans (HG.out b hb) hl3
    refine (write_c w3 G hG3 A ni ci X B nf cf Fs m S3.out.il hci S3.out.fl hcf HM.out (by omega) (by omega)).mono ?_
    clear hG3
    rintro e w4 ⟨v, r, rfl, hb4, ⟨rfl, hok, hv⟩ | ⟨rfl, hn, rfl⟩⟩
    · have hmin := enc_min ni X nf Fs m
      have hmax := enc_max hok n1' n2'
      have HOK := Lib.hid hok
      obtain ⟨V, cv, rfl, k1, k2, hg⟩ := own_shape hv
      obtain ⟨g, rfl, hg1, hg2, _⟩ := hg (by omega)
      have S4 := Lib.hid (S3.out.on hb4)
      have V4 := Lib.hid hv
      have B34 : Hid (w3.heap.size ≤ g ∧ w.heap.size < w3.heap.size ∧ g < w4.heap.size) := ⟨hg1, hl3, hg2⟩
      clear hb4 hv hok S3 c0 c1 c2 hl3 hg
      have PART := Lib.hid (fun i j (hj : j < nf) => enc_part ni X nf Fs m i j hj)
      have RUN := Lib.hid (fun i j (hi : i < nf) (hj : j < nf) (hne : i ≠ j) => run_renamed HOK.out (by omega) (by omega) hi hj hne (at_lst (enc ni X nf (renF Fs i j) m)))
      generalize enc ni X nf Fs m = l at *
      generalize hLL : l.length = L at *
      unfold maxLen at k2
      have d1 : w4.cell? ⟨w.heap.size, 1, none⟩ = some (.slice B nf cf) := S4.out.b1.cell 1
      have hl4 := S4.out.b1.lt
      by_cases hnf2 : 2 ≤ nf
      case neg =>
        clear PART RUN HOK V4 B34
        go_wp2_with (go_at_call 22; refine (num_d _ _).mono ?_; rintro e w9 ⟨rfl, rfl⟩)
        go_ret
        exact ⟨rfl, S4.out.below⟩
      have hL1 : (nf : Int) ≠ 0 := by omega
      obtain ⟨ii, hii, s1, s2, hs⟩ := flip_at n1 (L := nf) (by omega)
      obtain ⟨jj, hjj, t1, t2, ht⟩ := flip_at n2 (L := nf) (by omega)
      go_upto_region 9 with (go_at_call 22; refine (num_d _ _).mono ?_; rintro e w9 ⟨rfl, rfl⟩)
      generalize n1.tmod (nf : Int) = z1 at *
      go_upto_if 59 with fail
      go_cut [1] from 63 (fun kv wx => kv = .int .i64 (ii : Int) ∧ wx = w4)
      case first =>
        clear PART RUN HOK V4 B34 S4 HG HM ht
        rcases hs with ⟨z1', z2'⟩ | ⟨z1', z2'⟩
        · go_wp2_with fail
          go_meet
          case rel => exact ⟨by rw [← z2'], rfl⟩
        · go_wp2_with fail
          go_meet
          case rel => exact ⟨by rw [← z2'], rfl⟩
      case rest =>
      obtain ⟨rfl, rfl⟩ := hcut
      clear s1 s2 hs
      go_upto_region 12 with fail
      generalize n2.tmod (nf : Int) = z1 at *
      go_upto_if 67 with fail
      go_cut [2] from 71 (fun kv wx => kv = .int .i64 (jj : Int) ∧ wx = wc)
      case first =>
        clear PART RUN HOK V4 B34 S4 HG HM
        rcases ht with ⟨z1', z2'⟩ | ⟨z1', z2'⟩
        · go_wp2_with fail
          go_meet
          case rel => exact ⟨by rw [← z2'], rfl⟩
        · go_wp2_with fail
          go_meet
          case rel => exact ⟨by rw [← z2'], rfl⟩
      case rest =>
      obtain ⟨rfl, rfl⟩ := hcut
      clear t1 t2 ht
      by_cases hij : ii = jj
      · subst hij
        clear PART RUN HOK V4 B34
        go_wp2_with fail
        go_ret
        exact ⟨rfl, S4.out.below⟩
      have hdij : ((ii : Int) == (jj : Int)) = false := beq_eq_false_iff_ne.2 (by omega)
      obtain ⟨_, _, bf, off, rfl, hGb, hbl0, _⟩ := S4.out.fl.2 0 (by omega)
      have HBF : Hid (bf < w.heap.size) := HG.out bf hGb
      clear hGb hbl0
      have S5 : Hid (NS w (wc.alloc (.cells #[.int .i64 0, .int .i64 0] 51)) G A ni ci X (some ⟨bf, off, none⟩) nf cf Fs m w3.heap.size g L cv l wc.heap.size 0 0) :=
        ⟨S4.out.on ((Below.refl _ wc).alloc (Nat.le_refl _) _), V4.out.alloc _, Blk.new wc 51 _, hl4, by have := B34.out.2.2; omega⟩
      have HSZ : Hid (∀ k, k < nf → 1 ≤ (Fs k).name.size ∧ (Fs k).name.size ≤ 64) := fun k hk => by
        obtain ⟨_, _, _, _, _, _, _, h8, _⟩ := OneOk.fnG HOK.out (by omega) k hk
        exact ⟨h8.1, h8.2.1⟩
      have HFL : Hid (∀ k, k ≤ nf → (fnsB Fs k).length ≤ 78000) := fun k hk => by
        have := fnsB_max Fs k (fun t ht => (HSZ.out t (by omega)).2)
        omega
      clear V4 S4 HOK
      go_upto_region 18 with fail
      generalize wc.heap.size = gb at *
      generalize wc.alloc (.cells #[.int .i64 0, .int .i64 0] 51) = w5 at *
      clear d1 hl4
      go_loopw [12] (fun kv wx => ∃ k : Nat, k ≤ nf ∧ kv = .int .i64 (k : Int) ∧ Hid (NS w wx G A ni ci X (some ⟨bf, off, none⟩) nf cf Fs m w3.heap.size g L cv l gb ((fnsB Fs (min k jj)).length : Int) ((fnsB Fs (min k ii)).length : Int))) (fun kv _ => nf - (intOf kv).toNat)
      case atStart => exact ⟨0, by omega, rfl, (by rw [Nat.zero_min, Nat.zero_min]; exact S5)⟩
      case round =>
        clear S5
        obtain ⟨k, hk, rfl, S⟩ := hrel
        have b1 : wr.cell? ⟨w.heap.size, 1, none⟩ = some (.slice (some ⟨bf, off, none⟩) nf cf) := S.out.cb.b1.cell 1
        have bl := S.out.cb.b1.lt
        have e0 : wr.cell? ⟨gb, 0, none⟩ = some (.int .i64 ((fnsB Fs (min k jj)).length : Int)) := S.out.ft.cell 0
        have e1 : wr.cell? ⟨gb, 1, none⟩ = some (.int .i64 ((fnsB Fs (min k ii)).length : Int)) := S.out.ft.cell 1
        have el := S.out.ft.lt
        have ez : ∀ j, wr.frozen? ⟨gb, j, none⟩ = false := S.out.ft.frozen
        by_cases hkl : k < nf
        · obtain ⟨_, _, b', off', e', _, hbl, k0, _⟩ := S.out.cb.fl.2 k hkl
          injection e' with e'
          injection e' with e1' e2' _
          subst e1' e2'
          have ne1 : gb ≠ w.heap.size := by have := S.out.hgb; omega
          have ne2 : gb ≠ bf := by have := S.out.hgb; have := HBF.out; omega
          have hsz := (HSZ.out k hkl).2
          have ha := HFL.out (min k jj) (by omega)
          have hb := HFL.out (min k ii) (by omega)
          have S2 : Hid (∀ A' B' : Int, ((fnsB Fs (min (k + 1) jj)).length : Int) = A' → ((fnsB Fs (min (k + 1) ii)).length : Int) = B' → ∀ W', NS w W' G A ni ci X (some ⟨bf, off, none⟩) nf cf Fs m w3.heap.size g L cv l gb A' B' → Hid (NS w W' G A ni ci X (some ⟨bf, off, none⟩) nf cf Fs m w3.heap.size g L cv l gb ((fnsB Fs (min (k + 1) jj)).length : Int) ((fnsB Fs (min (k + 1) ii)).length : Int))) := by
            rintro A' B' rfl rfl W' h; exact h
          have hA1 : k < jj → (fnsB Fs (min (k + 1) jj)).length = (fnsB Fs (min k jj)).length + 14 + (Fs k).name.size := fun h => by
            rw [show min (k + 1) jj = k + 1 by omega, show min k jj = k by omega, fnsB, List.length_append, fnB_length]; omega
          have hA2 : ¬ k < jj → (fnsB Fs (min (k + 1) jj)).length = (fnsB Fs (min k jj)).length := fun h => by
            rw [show min (k + 1) jj = jj by omega, show min k jj = jj by omega]
          have hB1 : k < ii → (fnsB Fs (min (k + 1) ii)).length = (fnsB Fs (min k ii)).length + 14 + (Fs k).name.size := fun h => by
            rw [show min (k + 1) ii = k + 1 by omega, show min k ii = k by omega, fnsB, List.length_append, fnB_length]; omega
          have hB2 : ¬ k < ii → (fnsB Fs (min (k + 1) ii)).length = (fnsB Fs (min k ii)).length := fun h => by
            rw [show min (k + 1) ii = ii by omega, show min k ii = ii by omega]
          generalize (fnsB Fs (min k jj)).length = a at *
          generalize (fnsB Fs (min k ii)).length = b at *
          by_cases hkj : k < jj
          · by_cases hki : k < ii
            · have S3 := Lib.hid (S2.out ((a : Int) + 14 + ((Fs k).name.size : Int)) ((b : Int) + 14 + ((Fs k).name.size : Int)) (by have := hA1 hkj; omega) (by have := hB1 hki; omega) _ ((S.out.put HG.out 0 (.int .i64 ((a : Int) + 14 + ((Fs k).name.size : Int))) rfl).put HG.out 1 (.int .i64 ((b : Int) + 14 + ((Fs k).name.size : Int))) rfl)).out
              clear S S2 hA1 hA2 hB1 hB2
              go_upto_region 21 with fail
              go_region
              all_goals go_upto_region 23 with fail
              all_goals go_region
              all_goals go_wp2_with fail
              all_goals go_roundw
              case rel => exact ⟨k + 1, by omega, by go_num, S3⟩
              case measure => first | (simp [intOf]; done) | (simp [intOf]; omega)
            · have S3 := Lib.hid (S2.out ((a : Int) + 14 + ((Fs k).name.size : Int)) (b : Int) (by have := hA1 hkj; omega) (by have := hB2 hki; omega) _ (S.out.put HG.out 0 (.int .i64 ((a : Int) + 14 + ((Fs k).name.size : Int))) rfl)).out
              clear S S2 hA1 hA2 hB1 hB2
              go_upto_region 21 with fail
              go_region
              all_goals go_wp2_with fail
              all_goals go_roundw
              case rel => exact ⟨k + 1, by omega, by go_num, S3⟩
              case measure => first | (simp [intOf]; done) | (simp [intOf]; omega)
          · by_cases hki : k < ii
            · have S3 := Lib.hid (S2.out (a : Int) ((b : Int) + 14 + ((Fs k).name.size : Int)) (by have := hA2 hkj; omega) (by have := hB1 hki; omega) _ (S.out.put HG.out 1 (.int .i64 ((b : Int) + 14 + ((Fs k).name.size : Int))) rfl)).out
              clear S S2 hA1 hA2 hB1 hB2
              go_upto_region 23 with fail
              go_region
              all_goals go_wp2_with fail
              all_goals go_roundw
              case rel => exact ⟨k + 1, by omega, by go_num, S3⟩
              case measure => first | (simp [intOf]; done) | (simp [intOf]; omega)
            · have S3 := Lib.hid (S2.out (a : Int) (b : Int) (by have := hA2 hkj; omega) (by have := hB2 hki; omega) _ S.out).out
              clear S S2 hA1 hA2 hB1 hB2
              go_wp2_with fail
              go_roundw
              case rel => exact ⟨k + 1, by omega, by go_num, S3⟩
              case measure => first | (simp [intOf]; done) | (simp [intOf]; omega)
        · obtain rfl : nf = k := by omega
          clear e0 e1
          have hmj : min nf jj = jj := by omega
          have hmi : min nf ii = ii := by omega
          rw [hmj, hmi] at S
          have fjl := HFL.out jj (by omega)
          have fil := HFL.out ii (by omega)
          obtain ⟨sz1, sz2⟩ := HSZ.out ii hii
          obtain ⟨sz3, sz4⟩ := HSZ.out jj hjj
          obtain ⟨pre, post, hp1, hp2, hp3⟩ := PART.out ii jj hjj
          have hq := RUN.out ii jj hii hjj hij
          obtain ⟨rl1, rl2⟩ := ren_len Fs ii jj hij
          have hlen : L = 12 + (fnsB Fs jj).length + 1 + (Fs jj).name.size + post.length := by
            rw [← hLL, hp2, List.length_append, List.length_cons, List.length_append, size_list, hp1]; omega
          rw [hp3] at hq
          have HQ := Lib.hid hq
          have HP2 := Lib.hid hp2
          clear hq hp3 hp2 PART RUN hmj hmi
          generalize (fnsB (renF Fs ii jj) (max ii jj)).length = pl at *
          generalize (fnsB Fs jj).length = fj at *
          generalize (fnsB Fs ii).length = fi at *
          have hbeh : 12 + fj + 1 + (Fs jj).name.size ≤ L := by omega
          have HLEN := Lib.hid hlen
          clear hlen
          have e0 : wr.cell? ⟨gb, 0, none⟩ = some (.int .i64 (fj : Int)) := S.out.ft.cell 0
          have e1 : wr.cell? ⟨gb, 1, none⟩ = some (.int .i64 (fi : Int)) := S.out.ft.cell 1
          obtain ⟨_, _, b', off', e', _, hbl, ki, _⟩ := S.out.cb.fl.2 ii hii
          injection e' with e'
          injection e' with e1' e2' _
          subst e1' e2'
          obtain ⟨_, _, b', off', e', _, _, kj, _⟩ := S.out.cb.fl.2 jj hjj
          injection e' with e'
          injection e' with e1' e2' _
          subst e1' e2'
          have hij1 : (ii : Int) < (nf : Int) := by omega
          have hij2 : (jj : Int) < (nf : Int) := by omega
          go_upto_region 30 with fail
          go_upto_if 136 with fail
          go_cut [16] from 136 (fun pv wx => pv = .int .i64 ((12 + pl + 1 : Nat) : Int) ∧ Only (fun _ => False) wr wx)
          case first =>
            clear S HQ HP2 HG HM HFL HSZ
            by_cases hlt : jj < ii
            · have hr := rl2 hlt
              have hv : (12 : Int) + (fi : Int) + 1 + ((Fs ii).name.size : Int) - ((Fs jj).name.size : Int) = ((12 + pl + 1 : Nat) : Int) := by omega
              go_upto_region 31 with fail
              go_quiet (fail)
              go_wp2_with fail
              go_meet
              case rel => exact ⟨by first | rw [hv] | rfl, (Only.refl _ _).drewN _⟩
            · have hr := rl1 (Nat.lt_of_le_of_ne (Nat.le_of_not_lt hlt) hij)
              have hv : (12 : Int) + (fj : Int) + 1 = ((12 + pl + 1 : Nat) : Int) := by rw [hr]; omega
              go_wp2_with fail
              go_meet
              case rel => exact ⟨by first | rw [hv] | rfl, Only.refl _ _⟩
          case rest =>
          obtain ⟨rfl, hO⟩ := hcut
          have S6 := Lib.hid (S.out.quiet hO)
          clear hO S e0 e1 ki kj bl el ez b1 hbl
          have h14 : (12 : Int) + (fj : Int) = ((12 + fj : Nat) : Int) := by omega
          have h15 : ((12 + fj : Nat) : Int) + 1 + ((Fs jj).name.size : Int) = ((12 + fj + 1 + (Fs jj).name.size : Nat) : Int) := by omega
          have hbl := S6.out.v.bl
          rw [hLL] at hbl
          have P5 : Hid (PB wc wc (some ⟨g, 0, none⟩) L (lstF l) none 0 (fun _ => 0)) := ⟨hbl, fun i hi => absurd hi (Nat.not_lt_zero _), Below.refl _ _⟩
          have B6 := Lib.hid S6.out.cb.below
          clear hbl S6
          simp only [h14, h15]
          clear h14 h15
          have hL5 : ([] ++ slc (lstF l) 0 (12 + fj)).length = 12 + fj := by rw [List.nil_append, slc_length]
          have HHL : Hid (12 + fj ≤ L) := by show _ ≤ _; omega
          have HN0 : Hid (([] : List UInt8).length + (12 + fj) = 12 + fj) := Nat.zero_add _
          have HN1 : Hid (12 + fj ≤ 1000000000) := by show _ ≤ _; omega
          have HU : Hid (((u8 (Fs ii).name.size).toNat : Int) = ((Fs ii).name.size : Int)) := by have := u8_int (Fs ii).name.size; show _ = _; omega
          have HL2 : Hid (([] ++ slc (lstF l) 0 (12 + fj)).length ≤ 1000000000) := by show _ ≤ _; omega
          have HL3 : Hid (([] ++ slc (lstF l) 0 (12 + fj) ++ [u8 (Fs ii).name.size]).length + (Fs ii).name.size ≤ 1000000000) := by show _ ≤ _; rw [List.length_append, hL5]; simp; omega
          have HN4 : Hid (([] ++ slc (lstF l) 0 (12 + fj) ++ [u8 (Fs ii).name.size] ++ (Fs ii).name.data.toList).length + (L - (12 + fj + 1 + (Fs jj).name.size)) = 12 + fj + 1 + (Fs ii).name.size + post.length) := by
            have hlen := HLEN.out
            show _ = _; rw [List.length_append, List.length_append, hL5, size_list]; simp; omega
          have HN5 : Hid (12 + fj + 1 + (Fs ii).name.size + post.length ≤ 1000000000) := by have := HLEN.out; show _ ≤ _; omega
          have k3 : (12 + fj + 1 + (Fs jj).name.size) ≤ L := by omega
          go_wp2_with (first
            | (have X7 := V7; at_builtin; go_must (refine wpList_bytes rfl (.tmp 165) (.tmp 168) rfl rfl V7.out P8.out.below.size rfl (P8.out.b1.dropIf (12 + fj + 1 + (Fs jj).name.size) cv k1) _ HN4.out HN5.out ?_); go_must (intro A8 cap8 w8 hv8 ho8 _; have P9 := Lib.hid (P8.out.at_ (V7.out.own_below P8.out.below.size ho8)); have V8 := Lib.hid hv8; clear hv8 ho8 P8 V7))
            | (have X6 := V6; at_builtin; go_must (refine wpList_pushS rfl (.tmp 162) (.tmp 163) rfl (Fs ii).name rfl V6.out P7.out.below.size rfl HL3.out ?_); go_must (intro v7 w7 hv7 ho7; have P8 := Lib.hid (P7.out.at_ (V6.out.own_below P7.out.below.size ho7)); have V7 := Lib.hid hv7; clear hv7 ho7 P7 V6))
            | (have X5 := V5; at_builtin; go_must (refine wpList_pushN rfl (.tmp 156) (.tmp 160) rfl (u8 (Fs ii).name.size) rfl V5.out P6.out.below.size w6.heap.size rfl rfl HU.out HL2.out ?_); go_must (intro v6 w7 hv6 ho6; have P7 := Lib.hid (P6.out.at_ (V5.out.own_below P6.out.below.size ho6)); have V6 := Lib.hid hv6; clear hv6 ho6 P6 V5))
            | (at_builtin; go_must (refine wpList_bytes rfl (.const (.slice none 0 0)) (.tmp 154) rfl rfl (BR.nil _ wc.heap.size) P5.out.below.size rfl (P5.out.b1.less HHL.out) (12 + fj) HN0.out HN1.out ?_); go_must (intro A5 cap5 w6 hv5 ho5 _; have P6 := Lib.hid (P5.out.on ho5.nil); have V5 := Lib.hid hv5; clear hv5 ho5 P5)))
          all_goals
            have hL8 : 12 + fj + 1 + (Fs ii).name.size + post.length = (pre ++ (u8 (Fs ii).name.size :: ((Fs ii).name.data.toList ++ post))).length := by
              rw [List.length_append, List.length_cons, List.length_append, size_list, hp1]; omega
            have hl8 : [] ++ slc (lstF l) 0 (12 + fj) ++ [u8 (Fs ii).name.size] ++ (Fs ii).name.data.toList ++ slc (fun i => lstF l (12 + fj + 1 + (Fs jj).name.size + i)) 0 (L - (12 + fj + 1 + (Fs jj).name.size)) = pre ++ (u8 (Fs ii).name.size :: ((Fs ii).name.data.toList ++ post)) := by
              rw [← hLL, lst_drop, slc_lst l _ (by omega), HP2.out, ← hp1, List.take_left]
              have hd := drop_part pre post (Fs jj).name.data.toList (u8 (Fs jj).name.size)
              rw [size_list] at hd
              rw [hd]
              simp
            have hle : (pre ++ (u8 (Fs ii).name.size :: ((Fs ii).name.data.toList ++ post))).length ≤ 1000100 := by have := HLEN.out; omega
            have hv8 := V8.out
            rw [hl8, hL8] at hv8
            rw [hL8]
            clear V8 HN0 HN1 HU HL2 HL3 HN4 HN5 hl8 hL8 hL5 HHL HP2 HLEN hp1
            generalize pre ++ (u8 (Fs ii).name.size :: ((Fs ii).name.data.toList ++ post)) = le at *
            obtain ⟨A9, cap9, e9, q1, q2, _⟩ := own_shape hv8
            injection e9 with e9 _ e9'
            subst e9 e9'
            have V9 := Lib.hid hv8.bl
            unfold maxLen at q2
            have B9 := Lib.hid (B6.out.trans (P9.out.below.mono B6.out.size))
            clear hv8 P9 B6 HBF B34 HM HG HFL HSZ
            refine (read_c w8 _ (fun b h => h) A8 le.length cap8 (lstF le) V9.out (by omega) q1 (by omega)).mono ?_
            rintro e w10 ⟨hb10, ⟨h, _⟩ | ⟨_, q, hq, rfl⟩ | ⟨_, cd, iv, fv, hq, rfl, _, _⟩⟩
            · omega
            · rw [HQ.out] at hq
              obtain rfl : 12 + pl + 1 = q := by injection hq
              have B11 := Lib.hid ((B9.out.trans (hb10.mono B9.out.size)).alloc (Nat.le_trans B9.out.size hb10.size) (.cells #[.slice none 0 0, .slice none 0 0, .int .i64 0] 25))
              clear hb10 hq V9 B9 HQ
              unfold zeroC
              go_wp2_with (go_at_call 22; refine (num_d _ _).mono ?_; rintro e w9 ⟨rfl, rfl⟩)
              go_ret
              exact ⟨rfl, B11.out⟩
            · rw [HQ.out] at hq; cases hq
    · have S4 := Lib.hid (S3.out.on hb4)
      clear hb4 S3 hn c0 c1 c2 hl3
      have d1 : w4.cell? ⟨w.heap.size, 1, none⟩ = some (.slice B nf cf) := S4.out.b1.cell 1
      go_wp2_with (go_at_call 22; refine (num_d _ _).mono ?_; rintro e w9 ⟨rfl, rfl⟩)
      go_ret
      exact ⟨rfl, S4.out.below⟩
end Go.Proofs.Ytafhjpehkfcmjaa
