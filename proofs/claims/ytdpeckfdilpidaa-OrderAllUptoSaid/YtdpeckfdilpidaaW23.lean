/- OrderAll: the walk. -/
import Derived.Test.YtdpeckfdilpidaaW22
set_option linter.unusedVariables false
set_option linter.unusedSimpArgs false
namespace Go.Proofs.Ytdpeckfdilpidaa
open Go.RowKit
attribute [local go_sem ↓] Go.wp_at_zero Go.wp_at_succ
theorem LinePost.own {w w' : World} {len : Nat} {X : Nat → List Int} {e : Ending} (h : LinePost w len X e w') (hl : len ≤ 250000) :
    ∃ l A cap, e = .returned (.slice A l.length cap) ∧ IsLine len X l ∧ l.length ≤ len ∧ (∀ t, t < l.length → i64in (l.getD t 0)) ∧ Row w' (fun k => w.heap.size ≤ k) 3 1 (.slice A l.length cap) l.length (nums l) ∧ Below w.heap.size w w' := by
  obtain ⟨v, rfl, hb, hc⟩ := h
  rcases hc with ⟨h1, rfl⟩ | ⟨h1, h2, s, h3, h4, h5⟩
  · exact ⟨[], none, 0, rfl, .inl ⟨h1, rfl⟩, Nat.zero_le _, fun i hi => absurd hi (Nat.not_lt_zero _), by simpa [nums] using Row.nil_ w' _ 3 1, hb⟩
  · have hi := h3.inv h2 h1
    have hsz := hi.size
    have hlen : (ofNats s.done.reverse).length = s.done.length := by rw [ofNats_length, List.length_reverse]
    obtain ⟨A, cap, rfl, _⟩ := h5.shape
    refine ⟨ofNats s.done.reverse, A, cap, by rw [hlen], .inr ⟨h1, h2, s, h3, h4, rfl⟩, by rw [hlen]; omega, fun t ht => ?_, by rw [hlen]; exact h5, hb⟩
    rw [ofNats_length] at ht
    rw [ofNats_get _ ht]
    have := hi.done _ (List.mem_reverse.1 (getD_mem ht))
    exact ⟨by omega, by omega⟩
theorem TR.one {w wr : World} {X Y : Nat → List Int} {n lb lc b4 b5 i k : Nat} {fv : Value} {F FL : Nat → Prop} {V : Nat → Value} (h : TR w wr X n lb lc fv F FL V b4 b5 i k Y) : TR w wr.drew X n lb lc fv F FL V b4 b5 i k Y :=
  ⟨h.full.only ((Only.refl (fun _ => False) wr).drew) (fun _ _ _ h => h), h.l.only ((Only.refl (fun _ => False) wr).drew) (fun _ _ h => h), h.len, h.elem, h.dj, h.only.drew⟩
/-- A list copied onto nothing. -/
theorem copied {wr w1 : World} {A1 : Option Addr} {L c1 : Nat} {l : List Int} (g1 : wr.grownBy w1 (Value.slice none 0 0).ownBlock) (t1 : (Value.slice A1 L c1).ownBlock = (Value.slice none 0 0).ownBlock ∨ (Value.slice A1 L c1).ownBlock = some wr.heap.size)
    (q1 : w1.ownsRow 0 3 1 (.slice A1 L c1) L (nums l)) : Below wr.heap.size wr w1 ∧ Row w1 (fun b => wr.heap.size ≤ b ∧ b < w1.heap.size) 3 1 (.slice A1 l.length c1) l.length (nums l) := by
  have hL : L = l.length := by have := q1.1; simp [nums] at this; omega
  subst hL
  have o1' : Only (fun _ => False) wr w1 := (Only.refl _ wr).grown g1 fun k hk => by simp [Value.ownBlock] at hk
  refine ⟨o1'.toBelow (Nat.le_refl _) fun _ _ h => h, q1, fun b hb => ?_⟩
  have hlt := (q1.lt b hb).2
  rcases t1 with e | e
  · rw [e] at hb; simp [Value.ownBlock] at hb
  · rw [hb] at e; injection e with e; omega
theorem own_news {w : World} {F : Nat → Prop} {A : Option Addr} {c : Nat} {l : List Int} (h : Row w F 3 1 (.slice A l.length c) l.length (nums l)) (hl : ∀ t, t < l.length → i64in (l.getD t 0)) (hs : l.length ≤ 1000000) : (A = none → l.length = 0) ∧ ∀ a, A = some a → ∀ j u, (nums l)[j]? = some u → w.cell? (a.add j) = some u := by
  obtain ⟨A', c', e, hr⟩ := h.reads hl (by omega)
  injection e with e1 _ e2
  subst e1
  exact hr.news
set_option maxRecDepth 100000 in
set_option maxHeartbeats 400000000 in
theorem all_c (w : World) (A : Option Addr) (len cap : Nat) (nn : Nat → Nat) (X : Nat → Nat → List Int) (ra : RLLL w A len nn X) : Calls Try.prog 8 #[.slice A len cap] w (WaysPost w) := by
  have AC := Lib.hid (alive_c w)
  have hbig := ra.big
  have RA := Lib.hid ra
  clear ra
  by_cases g0 : 100 < len
  · go_enter Try.func8, Try.ntmps8
    go_wp2_with (first | (go_at_call 9; refine AC.out.mono ?_; rintro e w1 ⟨rfl, hb1⟩; have HB := Lib.hid hb1; clear hb1))
    go_ret
    exact ⟨rfl, HB.out⟩
  obtain ⟨i0, hI, hz0, hz1, hz2⟩ := info_parts info3
  have HI := Lib.hid hI
  have HZ0 := Lib.hid hz0
  have HZ1 := Lib.hid hz1
  have HZ2 := Lib.hid hz2
  obtain ⟨i1, kI, kz0, kz1, kz2⟩ := info_parts info27
  have KI := Lib.hid kI
  have KZ0 := Lib.hid kz0
  have KZ1 := Lib.hid kz1
  have KZ2 := Lib.hid kz2
  clear hI hz0 hz1 hz2 kI kz0 kz1 kz2
  go_enter Try.func8, Try.ntmps8
  go_wp2_with (first | (go_at_call 9; refine AC.out.mono ?_; rintro e w1 ⟨rfl, hb1⟩; have HB := Lib.hid hb1; clear hb1))
  have A0 : Hid (∃ FK FT VK VT Lk, AL w w1 (.slice none 0 0) (.slice none 0 0) (2 * 0) FK FT VK VT Lk) := ⟨_, _, _, _, _, (AL.start w (fun _ => .bool false) (fun _ => [])).later HB.out⟩
  clear AC HB
  go_loopw [4, 5, 6] (fun kv tv iv wr => ∃ i : Nat, i ≤ len ∧ iv = .int .i64 (i : Int) ∧ Hid (∃ FK FT VK VT Lk, AL w wr kv tv (2 * i) FK FT VK VT Lk)) (fun _ _ iv _ => len - (intOf iv).toNat)
  case atStart => exact ⟨0, by omega, rfl, A0⟩
  case round =>
    clear A0
    obtain ⟨i, hi, rfl, HR⟩ := hrel
    obtain ⟨FK, FT, VK, VT, Lk, hA⟩ := HR.out
    have AA := Lib.hid hA
    obtain ⟨Ak, ck, rfl, hck⟩ := hA.kept.row.shape
    obtain ⟨At, ct, rfl, hct⟩ := hA.twins.row.shape
    clear HR hA
    by_cases hlt : i < len
    · obtain ⟨b0, off0, Ai, ci, rfl, hbl, c0, hR⟩ := RA.out.at_ i hlt
      obtain ⟨hn1, hn2⟩ := RA.out.lens i hlt
      have R := Lib.hid hR
      have CA := Lib.hid (fun (w' : World) (hb : Below w.heap.size w w') => (hb.cell (p := ⟨b0, off0 + i, none⟩) hbl).trans c0)
      obtain ⟨n, hn⟩ : ∃ n, n = nn i := ⟨_, rfl⟩
      obtain ⟨Xi, hXi⟩ : ∃ Xi, Xi = X i := ⟨_, rfl⟩
      rw [← hn, ← hXi] at R hn2
      rw [← hn] at CA hn1
      have HN2 := Lib.hid hn2
      have cA := CA.out wr AA.out.below
      have H1 := Lib.hid (heavy_c wr _ Ai n ci Xi (R.out.later AA.out.below) 3000 (by omega) (fun k hk => by have := hn2 k hk; omega) (by omega))
      clear hR hn hXi c0 hn2
      by_cases g1 : 300 < n
      · clear H1
        go_wp2_with fail
        go_ret
        exact ⟨rfl, AA.out.below⟩
      by_cases g2 : 3000 < waysOf Xi n n
      · rw [decide_eq_true g2] at H1
        go_wp2_with (first | (go_at_call 10; refine H1.out.mono ?_; rintro e w2 ⟨rfl, rfl⟩))
        go_ret
        exact ⟨rfl, AA.out.below⟩
      rw [decide_eq_false g2] at H1
      have W1 := Lib.hid (fun k (hk : k < n) => ways_len g2 hk)
      have INT := Lib.hid (fun k (hk : k < n) => show (Xi k).length ≤ 1000000 ∧ ∀ i, i < (Xi k).length → i64in ((Xi k).getD i 0) from ⟨by have := (W1.out k hk).2; omega, R.out.ints hk⟩)
      have LC := Lib.hid (lent_c wr Ai n ci Xi (R.out.later AA.out.below) (by omega) (fun k hk => by have := (W1.out k hk).2; omega))
      clear g2
      go_wp2_with (first | (go_at_call 10; refine H1.out.mono ?_; rintro e w2 ⟨rfl, hw2⟩; subst w2))
      refine LC.out.mono ?_
      rintro e w3 ⟨lb, lc, fv, F, FL, V, b4, b5, rfl, hlc, hL, hb3⟩
      have HL := Lib.hid hL
      have LN := Lib.hid (line_c w3 _ _ n lc Xi (hL.reads (by omega) INT.out) (fun _ h => h) (by omega))
      have AL3 := Lib.hid (AA.out.later hb3)
      have hs3 := hb3.size
      have HFT := Lib.hid hL.ft
      have hsw : w.heap.size ≤ wr.heap.size := AA.out.below.size
      have HBR := Lib.hid AA.out.below
      have B3 := Lib.hid hb3
      clear LC hL hb3 H1 cA
      go_wp2_with fail
      refine LN.out.mono ?_
      intro e w4 hpost
      obtain ⟨la, Aa, ca, rfl, hla, hlal, hlai, hra, hb4⟩ := hpost.own (by omega)
      have HLA := Lib.hid hla
      have HLI := Lib.hid hlai
      have HRA := Lib.hid hra
      have AL4 := Lib.hid (AL3.out.later hb4)
      have B4 := Lib.hid (B3.out.trans (hb4.mono hs3))
      have hs4 := hb4.size
      have T0 := Lib.hid (HL.out.later hb4).tr
      obtain ⟨Af, cf, hfv, hcf⟩ := (HL.out.later hb4).full.row.shape
      subst hfv
      have T1 : Hid (∃ Y, TR w4 w4 Xi n lb lc (.slice Af n cf) F FL V b4 b5 0 0 Y) := ⟨_, T0.out⟩
      have BELOW := Lib.hid (fun (wx : World) (o : Only F w4 wx) => show Below w.heap.size w wx from AL4.out.below.trans (o.toBelow AL4.out.below.size fun k hk hf => by have := (HFT.out k (.inl hf)).1; omega))
      have BQ := Lib.hid (fun (wx : World) (o : Only F w4 wx) => B4.out.trans (o.toBelow (Nat.le_trans hs3 hs4) (fun k hk hf => by have := (HFT.out k (.inl hf)).1; omega)))
      have NF := Lib.hid (fun k (hf : F k) => show k < w3.heap.size from (HFT.out k (.inl hf)).2)
      have LEN : Hid (∀ k, k < n → (Xi k).length ≤ 3000) := fun k hk => (W1.out k hk).2
      clear hpost hla hlai hra hb4 LN AL3 HL T0
      go_wp2_with fail
      go_loopw [10] (fun jv wx => ∃ j : Nat, j ≤ n ∧ jv = .int .i64 (j : Int) ∧ Hid (∃ Y, TR w4 wx Xi n lb lc (.slice Af n cf) F FL V b4 b5 j 0 Y)) (fun jv _ => n - (intOf jv).toNat)
      case atStart => exact ⟨0, by omega, rfl, T1⟩
      case round =>
        clear T1
        obtain ⟨j, hj, rfl, HR⟩ := hrel
        obtain ⟨Y, hT⟩ := HR.out
        have cA := CA.out wr (BELOW.out wr hT.only)
        by_cases hjn : j < n
        · have HRR := Lib.hid HR.out
          clear hT
          obtain ⟨L, hL⟩ : ∃ L, L = (Xi j).length := ⟨_, rfl⟩
          have HL := Lib.hid hL
          clear hL HRR
          go_wp2_with fail
          go_loopw [11] (fun kv wx => ∃ k : Nat, k ≤ L ∧ kv = .int .i64 (k : Int) ∧ Hid (∃ Y, TR w4 wx Xi n lb lc (.slice Af n cf) F FL V b4 b5 j k Y)) (fun kv _ => L - (intOf kv).toNat)
          case atStart => exact ⟨0, by omega, rfl, HR⟩
          case round =>
            clear HR cA
            obtain ⟨k, hk, rfl, HR⟩ := hrel
            obtain ⟨Y, hT⟩ := HR.out
            have T := Lib.hid hT
            have cA := CA.out wr (BELOW.out wr hT.only)
            obtain ⟨bA, oA, Aj, cj, rfl, _, _, cJ, rJ⟩ := (R.out.later (BELOW.out wr hT.only)).at_ j hjn
            have RJ := Lib.hid rJ.2
            have hLb : L ≤ 3000 := by rw [HL.out]; exact LEN.out j hjn
            rw [← HL.out] at cJ
            clear HR hT rJ
            by_cases hkL : k < L
            · obtain ⟨m, hm⟩ : ∃ m, L = m + 1 + k := ⟨L - 1 - k, by omega⟩
              obtain ⟨_, b2, o2, rfl, _, _, cx⟩ := RJ.out m (by rw [← HL.out]; omega)
              obtain ⟨fb, cf', ev, _, _, _⟩ := T.out.full.row.form (by omega)
              injection ev with ev1 _ ev2
              subst ev1 ev2
              obtain ⟨gj, cgj, hV, _, _, _⟩ := (T.out.full.rows j hjn).form (by have := T.out.len j hjn; omega)
              have hYl : (Y j).length = L + 3 := by rw [HL.out]; exact T.out.len j hjn
              have cF := T.out.full.head_cell hjn
              have cO := T.out.full.num_cell hjn hV (i := k) (by omega)
              have hfr := T.out.full.rows j hjn
              rw [hV] at hfr
              have fO := hfr.frozen k
              have N := Lib.hid (T.out.wrote hjn (by rw [← HL.out]; exact hkL) hV)
              rw [hV, hYl] at cF
              have hidx : (Xi j).length - 1 - k = m := by rw [← HL.out]; omega
              rw [hidx] at N
              have hix : ((L : Int) - 1 - (k : Int)).toNat = m := by omega
              clear RJ T hfr hV hidx
              generalize (Xi j).getD m 0 = x at *
              generalize (Y j).getD k 0 = yo at *
              go_wp2_with fail
              go_region
              go_wp2_with fail
              go_roundw
              case rel => exact ⟨k + 1, by omega, by go_num, let ⟨Y', hN⟩ := N.out; ⟨Y', hN.one⟩⟩
              case measure => first | (simp [intOf]; done) | (simp [intOf]; omega)
            · have N := Lib.hid (T.out.next (by rw [← HL.out]; omega))
              clear RJ T
              go_wp2_with fail
              go_roundw
              case rel => exact ⟨j + 1, by omega, by go_num, _, N.out⟩
              case measure => first | (simp [intOf]; done) | (simp [intOf]; omega)
        · obtain rfl : j = n := by omega
          have T := Lib.hid hT
          have LN := Lib.hid (line_c wr _ _ j lc (fun q => (Xi q).reverse) (hT.turned (by omega) INT.out) (fun _ h => h) (by omega))
          have RT := Lib.hid (hT.turned (by omega) INT.out)
          have HRA2 := Lib.hid ((HRA.out.only hT.only (fun b hb hf => by have h1 := HRA.out.2 b hb; have h2 := NF.out b hf; omega)).mono (G := fun b => w3.heap.size ≤ b ∧ b < wr.heap.size) fun b hb h => ⟨h, hb⟩)
          have BX := Lib.hid (BELOW.out wr hT.only)
          have BQX := Lib.hid (BQ.out wr hT.only)
          have hs5 := hT.only.size
          clear HR hT HRA hjn
          go_wp2_with fail
          refine LN.out.mono ?_
          intro e w6 hpost
          obtain ⟨lz, Az, cz, rfl, hlz, hlzl, hlzi, hrz, hb6⟩ := hpost.own (by omega)
          have HLZ := Lib.hid hlz
          have HLZI := Lib.hid hlzi
          have HRZ := Lib.hid hrz
          have HRA6 := Lib.hid (HRA2.out.only (Only.ofBelow (F := fun _ => False) hb6) (fun _ _ h => h))
          have BX6 := Lib.hid (BX.out.trans (hb6.mono BX.out.size))
          have BQ6 := Lib.hid (BQX.out.trans (hb6.mono BQX.out.size))
          have RT6 := Lib.hid (RT.out.later hb6)
          have hs6 := hb6.size
          have TI0 : Hid (∃ F V, TI w6 w6 (fun q => (Xi q).reverse) (.slice none 0 0) 0 F V) := ⟨_, _, TI.empty w6 _ (fun _ => .bool false)⟩
          clear hpost hlz hlzi hrz hb6 LN RT HRA2 BX BQX T BELOW BQ NF
          have cA := CA.out w6 BX6.out
          go_wp2_with fail
          go_loopw [13, 14] (fun tv jv wz => ∃ q : Nat, q ≤ j ∧ jv = .int .i64 (q : Int) ∧ Hid (∃ F V, TI w6 wz (fun q => (Xi q).reverse) tv q F V)) (fun _ jv _ => j - (intOf jv).toNat)
          case atStart => exact ⟨0, by omega, rfl, TI0⟩
          case round =>
            clear TI0 cA
            obtain ⟨q, hq, rfl, HR⟩ := hrel
            obtain ⟨FZ, VZ, hTI⟩ := HR.out
            have TT := Lib.hid hTI
            obtain ⟨Av, cv, rfl, hcv⟩ := hTI.ll.row.shape
            have cA := CA.out wr (BX6.out.trans (hTI.below.mono BX6.out.size))
            clear HR hTI
            by_cases hqj : q < j
            · obtain ⟨bb, oo, Aq, cq, ee, _, _, cq0, rq⟩ := (RT6.out.later TT.out.below).at_ q hqj
              injection ee with ee
              injection ee with ee1 ee2 _
              subst ee1 ee2
              rw [Nat.zero_add] at cq0
              have NW := Lib.hid rq.news
              obtain ⟨L, hL⟩ : ∃ L, L = (Xi q).reverse.length := ⟨_, rfl⟩
              have HL := Lib.hid hL
              rw [← hL] at cq0
              have HNL : Hid ((nums (Xi q).reverse).length = L * 1) := by show (nums (Xi q).reverse).length = L * 1; rw [nums_length]; omega
              have NW1 : Hid (Aq = none → L = 0) := by have := NW.out.1; rw [← hL] at this; exact this
              have hLb : L ≤ 3000 := by rw [hL, List.length_reverse]; exact LEN.out q hqj
              clear hL rq
              go_wp2_with (first
                | (have P3 := P2; at_builtin; go_must (refine wpList_append_any rfl (.tmp 109) (.tmp 115) 22 rfl 27 i1 _ 1 24 Try.underlying22 KI.out KZ0.out KZ1.out KZ2.out rfl (by omega) (.slice Av q cv) q (heads q VZ) rfl ((TT.out.below' P2.out.1).ll.row.1.alloc _) (some ⟨w1.heap.size, 0, none⟩) 1 1 [.slice A1 L c1] rfl rfl (fun h => by cases h) (fun a ha => by injection ha with ha; subst ha; exact World.news_of_block (cs := #[.slice A1 L c1]) (t := 27) (fr := (0, 0)) (heap_alloc_new _ _)) (by simp [Value.oneCell']) (by unfold maxLen; omega) (by omega) (q + 1) rfl _ rfl (w1.heap.size + 1) (by simp) ?_); go_must (intro A2 c2 w2 hown hgrow hat; have N2 := Lib.hid (TT.out.push P2.out.1 (u := .slice A1 L c1) (by show Row w1 (fun b => wr.heap.size ≤ b) 3 1 (.slice A1 L c1) (Xi q).reverse.length (nums (Xi q).reverse); rw [← HL.out]; exact P2.out.2.mono (fun b _ h => h.1)) hown hgrow (hat.imp (fun e => e) (fun e => ⟨_, e, by omega⟩))); clear hown hgrow hat; simp (config := { maxSteps := 3000000 }) only [Act.put, List.setIfInBounds_toArray, List.set_cons_succ, List.set_cons_zero]))
                | (at_builtin; go_must (refine wpList_append_any rfl (.const (.slice none 0 0)) (.tmp 113) 27 rfl 3 i0 _ 1 8 Try.underlying27 HI.out HZ0.out HZ1.out HZ2.out rfl (by omega) (.slice none 0 0) 0 [] rfl (World.ownsRow_nil _ 0 3 1) Aq L cq (nums (Xi q).reverse) rfl HNL.out NW1.out NW.out.2 (nums_one _) (by unfold maxLen; omega) (by omega) L (by omega) (nums (Xi q).reverse) rfl wr.heap.size rfl ?_); go_must (intro A1 c1 w1 hown hgrow hat; have P2 := Lib.hid (copied hgrow hat hown); rw [← HL.out] at P2; clear hown hgrow hat; simp (config := { maxSteps := 3000000 }) only [Act.put, List.setIfInBounds_toArray, List.set_cons_succ, List.set_cons_zero])))
              go_roundw
              case rel => exact ⟨q + 1, by omega, by go_num, N2.out⟩
              case measure => first | (simp [intOf]; done) | (simp [intOf]; omega)
            · obtain rfl : q = j := by omega
              have XINT : Hid (∀ k, k < q → ((Xi k).reverse).length ≤ 1000000 ∧ ∀ t, t < ((Xi k).reverse).length → i64in (((Xi k).reverse).getD t 0)) := fun k hk => by
                refine ⟨by rw [List.length_reverse]; exact (INT.out k hk).1, fun t ht => ?_⟩
                rw [List.length_reverse] at ht
                rw [getD_reverse _ ht]
                exact (INT.out k hk).2 _ (by omega)
              have BW := Lib.hid TT.out.below
              have BX8 := Lib.hid (BX6.out.trans (BW.out.mono BX6.out.size))
              have hs8 := BW.out.size
              have RF := Lib.hid (ref_c wr Ai q ci Xi (R.out.later BX8.out) (by omega))
              have RTI := Lib.hid (TT.out.reads2 (by omega) XINT.out)
              have HRA8 := Lib.hid (HRA6.out.only (Only.ofBelow (F := fun _ => False) BW.out) (fun _ _ h => h))
              have HRZ8 := Lib.hid (HRZ.out.only (Only.ofBelow (F := fun _ => False) BW.out) (fun _ _ h => h))
              have BQ8 := Lib.hid (BQ6.out.trans (BW.out.mono (Nat.le_trans (Nat.le_trans hs3 hs4) (Nat.le_trans hs5 hs6))))
              have hsq6 : w3.heap.size ≤ w6.heap.size := by omega
              clear hqj TT RT6 HRA6 HRZ BX6 BW BQ6
              go_wp2_with fail
              refine RF.out.mono ?_
              intro e w9 hpost
              obtain ⟨lr, Ar, cr, rfl, hlr, hlrl, hrr, hb9⟩ := hpost.list (by omega)
              obtain rfl := HLA.out.one hlr
              have HRA9 := Lib.hid (HRA8.out.only (Only.ofBelow (F := fun _ => False) hb9) (fun _ _ h => h))
              have HRZ9 := Lib.hid (HRZ8.out.only (Only.ofBelow (F := fun _ => False) hb9) (fun _ _ h => h))
              obtain ⟨A9, c9, e9, RA9⟩ := HRA9.out.reads HLI.out (by omega)
              injection e9 with e9a _ e9c
              subst e9a e9c
              have S1 := Lib.hid (same_true (ca := ca) (cb := cr) w9 rfl RA9 hrr 0)
              have BX9 := Lib.hid (BX8.out.trans (hb9.mono BX8.out.size))
              have BQ9 := Lib.hid (BQ8.out.trans (hb9.mono (by omega)))
              have RTI9 := Lib.hid (RTI.out.later hb9)
              have hs9 := hb9.size
              clear hpost hlr hrr hb9 RF RTI HRA8 HRZ8 BX8 BQ8 RA9
              go_wp2_with fail
              refine S1.out.mono ?_
              rintro e w10 ⟨rfl, m1, rfl⟩
              have RF2 := Lib.hid (ref_c (w9.drewN m1) Av q cv (fun q => (Xi q).reverse) ((RTI9.out.only ((Only.refl (fun _ => False) w9).drewN m1) (fun _ _ _ h => h))) (by omega))
              clear S1 RTI9
              go_wp2_with fail
              refine RF2.out.mono ?_
              intro e w11 hpost
              obtain ⟨lr2, Ar2, cr2, rfl, hlr, hlrl2, hrr, hb11⟩ := hpost.list (by omega)
              obtain rfl := HLZ.out.one hlr
              have hb9 : Below w9.heap.size w9 w11 := (Only.toBelow (F := fun _ => False) ((Only.refl (fun _ => False) w9).drewN m1) (Nat.le_refl _) (fun _ _ h => h)).trans hb11
              have HRA11 := Lib.hid (HRA9.out.only (Only.ofBelow (F := fun _ => False) hb9) (fun _ _ h => h))
              have HRZ11 := Lib.hid (HRZ9.out.only (Only.ofBelow (F := fun _ => False) hb9) (fun _ _ h => h))
              obtain ⟨A9, c9, e9, RZ11⟩ := HRZ11.out.reads HLZI.out (by omega)
              injection e9 with e9a _ e9c
              subst e9a e9c
              have S2 := Lib.hid (same_true (ca := cz) (cb := cr2) w11 rfl RZ11 hrr 0)
              have BX11 := Lib.hid (BX9.out.trans (hb9.mono BX9.out.size))
              have BQ11 := Lib.hid (BQ9.out.trans (hb9.mono (by omega)))
              have hs11 := hb9.size
              clear hpost hlr hrr hb9 hb11 RF2 HRA9 HRZ9 BX9 BQ9 RZ11
              go_wp2_with fail
              refine S2.out.mono ?_
              rintro e w12 ⟨rfl, m2, rfl⟩
              clear S2
              have BQ12 := Lib.hid (BQ11.out.trans (Only.toBelow (F := fun _ => False) ((Only.refl (fun _ => False) w11).drewN m2) (by omega) (fun _ _ h => h)))
              have HRA12 := Lib.hid (HRA11.out.drewN m2)
              have HRZ12 := Lib.hid (HRZ11.out.drewN m2)
              have hs12 : w11.heap.size = (w11.drewN m2).heap.size := rfl
              clear HRA11 HRZ11 BQ11 BX11 CA
              generalize w11.drewN m2 = w12 at *
              have AL12 := Lib.hid (AA.out.later BQ12.out)
              have AFT := Lib.hid (fun b (hf : FK b) => (AA.out.ft b (.inl hf)).2)
              have HLA1 : Hid ((nums la).length = la.length * 1) := by show (nums la).length = la.length * 1; rw [nums_length]; omega
              have HLZ1 : Hid ((nums lz).length = lz.length * 1) := by show (nums lz).length = lz.length * 1; rw [nums_length]; omega
              have hqi : 2 * i ≤ 200 := by omega
              clear AL4 hlrl hlrl2
              have PUSHK := Lib.hid (fun (A13 : Option Addr) (c13 : Nat) (w13 : World) (hown : w13.ownsRow 0 27 1 (.slice A13 (2 * i + 2) c13) (2 * i + 2) (heads (2 * i) VK ++ [.slice Aa la.length ca, .slice Az lz.length cz])) (hgrow : (w12.alloc (.cells #[.slice Aa la.length ca, .slice Az lz.length cz] 27)).grownBy w13 (Value.slice Ak (2 * i) ck).ownBlock)
                (hat : (Value.slice A13 (2 * i + 2) c13).ownBlock = (Value.slice Ak (2 * i) ck).ownBlock ∨ (Value.slice A13 (2 * i + 2) c13).ownBlock = some (w12.heap.size + 1)) => AA.out.pushK BQ12.out HRA12.out HRZ12.out (fun b hb => by have := hb.1; omega) (fun b hb => by have h1 : _ ≤ b := hb; omega) (fun b h1 h2 => by have := h1.2; have h3 : _ ≤ b := h2; omega) hown hgrow (hat.imp (fun e => e) (fun e => ⟨_, e, by omega⟩)))
              have ROWS := Lib.hid (fun (w13 : World) (k7 : Only (fun b => FK b) w12 w13) => show ((Aa = none → la.length = 0) ∧ ∀ a, Aa = some a → ∀ j u, (nums la)[j]? = some u → w13.cell? (a.add j) = some u) ∧ ∀ wx, Below w13.heap.size w13 wx → ((Az = none → lz.length = 0) ∧ ∀ a, Az = some a → ∀ j u, (nums lz)[j]? = some u → wx.cell? (a.add j) = some u) from
                ⟨own_news (HRA12.out.only k7 (fun b hb hf => by have h1 := (HRA12.out.2 b hb).1; have h2 := AFT.out b hf; omega)) HLI.out (by omega), fun wx hb => own_news ((HRZ12.out.only k7 (fun b hb hf => by have h1 : _ ≤ b := HRZ12.out.2 b hb; have h2 := AFT.out b hf; omega)).only (Only.ofBelow (F := fun _ => False) hb) (fun _ _ h => h)) HLZI.out (by omega)⟩)
              go_wp2_with (first
                | (have X5 := PZ; at_builtin; go_must (refine wpList_append_any rfl (.tmp 137) (.tmp 142) 22 rfl 27 i1 _ 1 24 Try.underlying22 KI.out KZ0.out KZ1.out KZ2.out rfl (by omega) (.slice At (2 * i) ct) (2 * i) (heads (2 * i) VT) rfl (TW.out.alloc _) (some ⟨w15.heap.size, 0, none⟩) 2 2 [.slice A14 la.length c14, .slice A15 lz.length c15] rfl rfl (fun h => by cases h) (fun a ha => by injection ha with ha; subst ha; exact World.news_of_block (cs := #[.slice A14 la.length c14, .slice A15 lz.length c15]) (t := 27) (fr := (0, 0)) (heap_alloc_new _ _)) (by simp [Value.oneCell']) (by unfold maxLen; omega) (by omega) (2 * i + 2) rfl _ rfl (w15.heap.size + 1) (by simp) ?_); go_must (intro A16 c16 w16 hown hgrow hat; have Q16 := Lib.hid hown; have G16 := Lib.hid hgrow; have T16 := Lib.hid hat; clear hown hgrow hat; simp (config := { maxSteps := 3000000 }) only [Act.put, List.setIfInBounds_toArray, List.set_cons_succ, List.set_cons_zero]))
                | (have X4 := PA; at_builtin; go_must (refine wpList_append_any rfl (.const (.slice none 0 0)) (.tmp 140) 27 rfl 3 i0 _ 1 8 Try.underlying27 HI.out HZ0.out HZ1.out HZ2.out rfl (by omega) (.slice none 0 0) 0 [] rfl (World.ownsRow_nil _ 0 3 1) Az lz.length cz (nums lz) rfl HLZ1.out (NZ.out _ PA.out.1).1 (NZ.out _ PA.out.1).2 (nums_one _) (by unfold maxLen; omega) (by omega) lz.length (by omega) (nums lz) rfl w14.heap.size rfl ?_); go_must (intro A15 c15 w15 hown hgrow hat; have PZ := Lib.hid (copied hgrow hat hown); have hs15 := PZ.out.1.size; have BZ := Lib.hid (PA.out.1.trans (PZ.out.1.mono hs14)); have TW := Lib.hid (PK.out.2.1.only (Only.ofBelow (F := fun _ => False) BZ.out) (fun _ _ _ h => h)).row.1; clear hown hgrow hat; simp (config := { maxSteps := 3000000 }) only [Act.put, List.setIfInBounds_toArray, List.set_cons_succ, List.set_cons_zero]))
                | (have X3 := PK; at_builtin; go_must (refine wpList_append_any rfl (.const (.slice none 0 0)) (.tmp 138) 27 rfl 3 i0 _ 1 8 Try.underlying27 HI.out HZ0.out HZ1.out HZ2.out rfl (by omega) (.slice none 0 0) 0 [] rfl (World.ownsRow_nil _ 0 3 1) Aa la.length ca (nums la) rfl HLA1.out NA.out.1 NA.out.2 (nums_one _) (by unfold maxLen; omega) (by omega) la.length (by omega) (nums la) rfl w13.heap.size rfl ?_); go_must (intro A14 c14 w14 hown hgrow hat; have PA := Lib.hid (copied hgrow hat hown); have hs14 := PA.out.1.size; clear hown hgrow hat; simp (config := { maxSteps := 3000000 }) only [Act.put, List.setIfInBounds_toArray, List.set_cons_succ, List.set_cons_zero]))
                | (at_builtin; go_must (refine wpList_append_any rfl (.tmp 132) (.tmp 135) 22 rfl 27 i1 _ 1 24 Try.underlying22 KI.out KZ0.out KZ1.out KZ2.out rfl (by omega) (.slice Ak (2 * i) ck) (2 * i) (heads (2 * i) VK) rfl (AL12.out.kept.row.1.alloc _) (some ⟨w12.heap.size, 0, none⟩) 2 2 [.slice Aa la.length ca, .slice Az lz.length cz] rfl rfl (fun h => by cases h) (fun a ha => by injection ha with ha; subst ha; exact World.news_of_block (cs := #[.slice Aa la.length ca, .slice Az lz.length cz]) (t := 27) (fr := (0, 0)) (heap_alloc_new _ _)) (by simp [Value.oneCell']) (by unfold maxLen; omega) (by omega) (2 * i + 2) rfl _ rfl (w12.heap.size + 1) (by simp) ?_); go_must (intro A13 c13 w13 hown hgrow hat; obtain ⟨FK', VK', k1, k2, k3, k4, k5, k6, k7⟩ := PUSHK.out _ _ _ hown hgrow hat; have PK := Lib.hid (And.intro k1 (And.intro k2 (And.intro k3 (And.intro k4 (And.intro k5 k6))))); have NA := Lib.hid (ROWS.out _ k7).1; have NZ := Lib.hid (ROWS.out _ k7).2; have hs13 := k7.size; clear hown hgrow hat k1 k2 k3 k4 k5 k6 k7; simp (config := { maxSteps := 3000000 }) only [Act.put, List.setIfInBounds_toArray, List.set_cons_succ, List.set_cons_zero])))
              have P16 := Lib.hid (AL.pushT PK.out.1 PK.out.2.1 PK.out.2.2.1 PK.out.2.2.2.1 PK.out.2.2.2.2.1 AL12.out.len ⟨by omega, HLI.out⟩ ⟨by omega, HLZI.out⟩ BZ.out (PA.out.2.only (Only.ofBelow (F := fun _ => False) PZ.out.1) (fun b hb hf => hf)) PZ.out.2 (fun b hb => hb.1) (fun b hb => by have := hb.1; omega) (fun b h1 h2 => by have := h1.2; have := h2.1; omega) Q16.out G16.out (T16.out.imp (fun e => e) (fun e => ⟨_, e, by omega⟩)))
              go_roundw
              case rel => exact ⟨i + 1, by omega, by go_num, let ⟨FT', VT', hAL⟩ := P16.out; ⟨FK', FT', VK', VT', _, hAL⟩⟩
              case measure => first | (simp [intOf]; done) | (simp [intOf]; omega)
    · have h2i : 2 * i ≤ 200 := by omega
      obtain ⟨N, hN⟩ : ∃ N, N = 2 * i := ⟨_, rfl⟩
      rw [← hN] at AA hck hct h2i ⊢
      clear hN
      go_wp2_with fail
      go_loopw [15] (fun tv wx => ∃ t : Nat, t ≤ N ∧ tv = .int .i64 (t : Int) ∧ Hid (AL w wx (.slice Ak N ck) (.slice At N ct) N FK FT VK VT Lk)) (fun tv _ => N - (intOf tv).toNat)
      case atStart => exact ⟨0, by omega, rfl, AA⟩
      case round =>
        clear AA
        obtain ⟨t, ht, rfl, AA⟩ := hrel
        by_cases htN : t < N
        · obtain ⟨kb, ck', ev, _, _, _⟩ := AA.out.kept.row.form (by omega)
          injection ev with ev1 _ ev2
          subst ev1 ev2
          obtain ⟨tb, ct', ev, _, _, _⟩ := AA.out.twins.row.form (by omega)
          injection ev with ev1 _ ev2
          subst ev1 ev2
          have hlk := AA.out.len t htN
          obtain ⟨A1, c1, e1, R1⟩ := (AA.out.kept.rows t htN).reads hlk.2 (by omega)
          obtain ⟨A2, c2, e2, R2⟩ := (AA.out.twins.rows t htN).reads hlk.2 (by omega)
          have cK := AA.out.kept.head_cell htN
          have cT := AA.out.twins.head_cell htN
          rw [e1] at cK
          rw [e2] at cT
          have SC := Lib.hid (fun n => same_true (ca := c1) (cb := c2) wr rfl R1 R2 n)
          have NX := Lib.hid (fun n => AA.out.later (w1 := wr.drewN n) (Only.toBelow (F := fun _ => False) ((Only.refl (fun _ => False) wr).drewN n) (Nat.le_refl _) (fun _ _ h => h)))
          clear hlk R1 R2 e1 e2 AA
          generalize (Lk t).length = Lt at *
          go_wp2_with fail
          go_quiet (exact SC.out _)
          go_wp2_with fail
          go_roundw
          case rel => exact ⟨t + 1, by omega, by go_num, NX.out _⟩
          case measure => first | (simp [intOf]; done) | (simp [intOf]; omega)
        · have PC := Lib.hid (apart_c wr FK (.slice Ak N ck) N VK Lk AA.out.kept h2i (fun k hk => (AA.out.len k hk).1))
          have FIN := Lib.hid (fun (w' : World) (ho : Only FK wr w') => show Below w.heap.size w w' from AA.out.below.trans (ho.toBelow AA.out.below.size fun k hk hf => by have := (AA.out.ft k (.inl hf)).1; omega))
          clear AA
          go_wp2_with fail
          refine PC.out.mono ?_
          rintro e w2 ⟨rfl, ho⟩
          have E := Lib.hid (FIN.out w2 ho)
          clear ho PC FIN
          go_wp2_with fail
          go_ret
          exact ⟨rfl, E.out⟩
end Go.Proofs.Ytdpeckfdilpidaa
