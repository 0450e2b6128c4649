/- the document's Read: the walk. -/
import Derived.Test.YtafhjpehkfcmjaaW33
import Derived.Deep.CutRange
import Derived.Deep.LoopGhost
import Derived.StillTailTactics
set_option linter.unusedVariables false
set_option linter.unusedSimpArgs false
namespace Go.Proofs.Ytafhjpehkfcmjaa
open Go.RowKit
attribute [local go_sem ↓] Go.wp_at_zero Go.wp_at_succ
theorem headD_at : ∀ j, j < 4 → ∃ b : Nat, b < 256 ∧ headL[j]? = some (UInt8.ofNat b) ∧ (#[.int .u64 113, .int .u64 114, .int .u64 49, .int .u64 54] : Array Value)[j]? = some (.int .u64 (b : Int))
  | 0, _ => ⟨113, by omega, rfl, rfl⟩
  | 1, _ => ⟨114, by omega, rfl, rfl⟩
  | 2, _ => ⟨49, by omega, rfl, rfl⟩
  | 3, _ => ⟨54, by omega, rfl, rfl⟩
  | n + 4, h => by omega
structure DH (w wr : World) (G : Nat → Prop) (A : Option Addr) (L c : Nat) (Bf : Nat → UInt8) (p : Nat) (bad : Bool) : Prop where
  b : Blk wr (w.heap.size + 1) 78 (lcells (.slice A L c) p bad)
  rc : Blk wr w.heap.size 25 #[.slice none 0 0, .slice none 0 0, .int .i64 0]
  hb : Blk wr (w.heap.size + 1 + 1) 79 #[.int .u64 113, .int .u64 114, .int .u64 49, .int .u64 54]
  bl : BL wr G A L Bf
  bw : Below w.heap.size w wr
theorem DH.quiet {w wr w2 : World} {G : Nat → Prop} {A : Option Addr} {L c : Nat} {Bf : Nat → UInt8} {p : Nat} {bad : Bool} (h : DH w wr G A L c Bf p bad) (o : Only (fun _ => False) wr w2) : DH w w2 G A L c Bf p bad := by
  have hlt := h.b.lt
  exact ⟨h.b.only o (fun h => h), h.rc.only o (fun h => h), h.hb.only o (fun h => h), h.bl.only o (fun _ _ _ h => h), h.bw.trans (o.toBelow (by omega) fun _ _ h => h)⟩
theorem DH.take {w wr : World} {G : Nat → Prop} {A : Option Addr} {L c : Nat} {Bf : Nat → UInt8} {p : Nat} {bad : Bool} (hG : ∀ b, G b → b < w.heap.size) (h : DH w wr G A L c Bf p bad) (hp : p ≤ L) (hL : L ≤ 300000000) (hc : L ≤ c) (hc2 : c ≤ 9223372036854775807) {n lo hi : Nat} (hn : 1 ≤ n) (hn2 : n ≤ 8) (hlo : lo < 18446744073709551616) (hhi : hi < 18446744073709551616) {ni li hi' : Int} (e1 : ni = (n : Int)) (e2 : li = (lo : Int)) (e3 : hi' = (hi : Int)) :
    Calls Try.prog 35 #[.pointer (some ⟨w.heap.size + 1, 0, none⟩), .int .i64 ni, .int .u64 li, .int .u64 hi'] wr fun e w' => ∃ v p' bad', e = .returned (.int .i64 v) ∧ i64in v ∧ DH w w' G A L c Bf p' bad' ∧ p' ≤ L ∧ NumR Bf L n lo hi p bad p' bad' v := by
  subst e1 e2 e3
  refine (take_c wr G A L c Bf (w.heap.size + 1) p bad n lo hi h.b h.bl (fun g => by have := hG _ g; omega) hp hL hc hc2 hn hn2 hlo hhi).mono ?_
  rintro e w' ⟨v, p', bad', rfl, hv, hb, ho, hR⟩
  have hlt := h.b.lt
  exact ⟨v, p', bad', rfl, hv, ⟨hb, h.rc.only ho (fun e => by omega), h.hb.only ho (fun e => by omega), h.bl.only ho (fun b _ hb e => by have := hG b hb; omega), h.bw.trans (ho.toBelow (by omega) fun k hk e => by omega)⟩, hR.le hp, hR⟩
theorem DH.start {w : World} {G : Nat → Prop} {A : Option Addr} {L c : Nat} {Bf : Nat → UInt8} (hB : BL w G A L Bf) : DH w (((w.alloc (.cells #[.slice none 0 0, .slice none 0 0, .int .i64 0] 25)).alloc (.cells #[.slice A L c, .int .i64 0, .bool false] 78)).alloc (.cells #[.int .u64 113, .int .u64 114, .int .u64 49, .int .u64 54] 79)) G A L c Bf 0 false := by
  have z : (w.alloc (.cells #[.slice none 0 0, .slice none 0 0, .int .i64 0] 25)).heap.size = w.heap.size + 1 := by simp
  have z2 : ((w.alloc (.cells #[.slice none 0 0, .slice none 0 0, .int .i64 0] 25)).alloc (.cells #[.slice A L c, .int .i64 0, .bool false] 78)).heap.size = w.heap.size + 1 + 1 := by simp
  have b2 := Blk.new (w.alloc (.cells #[.slice none 0 0, .slice none 0 0, .int .i64 0] 25)) 78 #[.slice A L c, .int .i64 0, .bool false]
  have b3 := Blk.new ((w.alloc (.cells #[.slice none 0 0, .slice none 0 0, .int .i64 0] 25)).alloc (.cells #[.slice A L c, .int .i64 0, .bool false] 78)) 79 #[.int .u64 113, .int .u64 114, .int .u64 49, .int .u64 54]
  rw [z] at b2
  rw [z2] at b3
  exact ⟨b2.alloc _, ((Blk.new w 25 _).alloc _).alloc _, b3, hB.only (F := fun _ => False) ((((Only.refl _ w).alloc _).alloc _).alloc _) (fun _ _ _ h => h), ba (ba (ba (Below.refl _ _) _) _) _⟩
theorem DM.start {w wr : World} {G : Nat → Prop} {A : Option Addr} {L c : Nat} {Bf : Nat → UInt8} {p : Nat} {bad : Bool} (h : DH w wr G A L c Bf p bad) : DM w (wr.alloc (.cells #[.slice none 0 0, .slice none 0 0, .int .i64 0] 25)) G A L c Bf wr.heap.size (.slice none 0 0) (.slice none 0 0) [] [] p bad 0 := by
  have o : Only (fun _ => False) wr (wr.alloc (.cells #[.slice none 0 0, .slice none 0 0, .int .i64 0] 25)) := (Only.refl _ wr).alloc _
  have h2 := h.quiet o
  exact ⟨h2.b, h2.rc, Blk.new wr 25 _, h2.bl, World.ownsRow_nil _ _ _ _, World.ownsRow_nil _ _ _ _, h2.bw, by have := h.b.lt; omega⟩
set_option maxRecDepth 100000 in
set_option maxHeartbeats 64000000 in
theorem dread_c (w : World) (G : Nat → Prop) (hG : ∀ b, G b → b < w.heap.size) (A : Option Addr) (L c : Nat) (Bf : Nat → UInt8) (hB : BL w G A L Bf) (hL : L ≤ 300000000) (hc : L ≤ c) (hc2 : c ≤ 9223372036854775807) :
    Calls Try.prog 19 #[.slice A L c] w (ReadPost Bf L w) := by
  have HG := Lib.hid hG
  have S0 := Lib.hid (DH.start (w := w) (c := c) hB)
  clear hB hG
  by_cases hlong : 268435456 < L
  · clear S0
    have E : Hid (ReadPost Bf L w (.returned (.tuple #[zeroC, .int .i64 0, .int .i64 2])) (w.alloc (.cells #[.slice none 0 0, .slice none 0 0, .int .i64 0] 25))) := ⟨ba (Below.refl _ _) _, .inl ⟨hlong, rfl⟩⟩
    go_enter Try.func19, Try.ntmps19
    go_wp2_with fail
    refine bodyPost_ret (results_cell3 rfl (a := ⟨w.heap.size, 0, none⟩) rfl rfl rfl (run_loadVar_row _ w.heap.size 25 25 #[.slice none 0 0, .slice none 0 0, .int .i64 0] (0, 0) _ (heap_alloc_new w _) Try.underlying25 rfl (by kernel_rfl))) rfl ?_
    exact E.out
  have HR0 : Hid (HeadR Bf L 0 0 false) := .inr ⟨rfl, rfl⟩
  go_enter Try.func19, Try.ntmps19
  go_wp2_with fail
  go_loopw [7] (fun jv wx => ∃ j : Nat, j ≤ 4 ∧ jv = .int .i64 (j : Int) ∧ ∃ pj badj, Hid (DH w wx G A L c Bf pj badj) ∧ pj ≤ L ∧ Hid (HeadR Bf L j pj badj)) (fun jv _ => 4 - (intOf jv).toNat)
  case atStart => exact ⟨0, by omega, rfl, 0, false, S0, by omega, HR0⟩
  case round =>
    clear S0 HR0
    obtain ⟨j, hj, rfl, pj, badj, S, hpj, HRj⟩ := hrel
    by_cases hj4 : j < 4
    · obtain ⟨b, hb, hb1, hb2⟩ := headD_at j hj4
      have S2 : Hid (DH w wr.drew G A L c Bf pj badj) := S.out.quiet ((Only.refl _ wr).drew)
      have cb : wr.cell? ⟨w.heap.size + 1 + 1, j, none⟩ = some (.int .u64 (b : Int)) := (S.out.hb.cell j).trans hb2
      have hml := S.out.hb.lt
      have NJ := Lib.hid (S2.out.take HG.out hpj hL hc hc2 (n := 1) (lo := b) (hi := b) (by omega) (by omega) (by omega) (by omega) (ni := 1) (li := b) (hi' := b) rfl rfl rfl)
      have HS : Hid (∀ p2 bad2 v, NumR Bf L 1 b b pj badj p2 bad2 v → HeadR Bf L (j + 1) p2 bad2) := fun p2 bad2 v hN => headR_step HRj.out hb1 hb hN
      clear hb1 hb2 HRj
      go_upto_region 8 with fail
      go_still_tail 7, (by kernel_rfl)
      change wpList _ _ _ _ _ wr.drew
      go_wp2_with (first | (go_at_call 35; refine NJ.out.mono ?_; rintro e w5 ⟨v5, p5, bad5, rfl, hv5, hS5, hp5, hR5⟩; have S5 := Lib.hid hS5; have H5 := Lib.hid (HS.out _ _ _ hR5); clear hS5 hR5))
      go_roundw
      case rel => exact ⟨j + 1, by omega, by go_num, p5, bad5, S5, hp5, H5⟩
      case measure => first | (simp [intOf]; done) | (simp [intOf]; omega)
    · have hj' : j = 4 := by omega
      subst hj'
      have NC := Lib.hid (S.out.take HG.out hpj hL hc hc2 (n := 4) (lo := 1) (hi := 4294967295) (by omega) (by omega) (by omega) (by omega) (ni := 4) (li := 1) (hi' := 4294967295) rfl rfl rfl)
      have HC : Hid (∀ p2 bad2 v, NumR Bf L 4 1 4294967295 pj badj p2 bad2 v → CntR Bf L p2 bad2 v) := fun p2 bad2 v hN => cntR_of HRj.out hN
      clear HRj S
      go_upto_if 46 with (first | (go_at_call 35; refine NC.out.mono ?_; rintro e w5 ⟨v8, p5, bad5, rfl, hv8, hS5, hp5, hR5⟩; have S5 := Lib.hid (DM.start hS5); have C5 := Lib.hid (HC.out _ _ _ hR5); have a2 : w5.cell? ⟨w.heap.size + 1, 2, none⟩ = some (.bool bad5) := hS5.b.cell 2; have hr5 := hS5.b.lt; clear hS5 hR5))
      clear NC HC a2 hr5
      generalize w5.heap.size = gc at *
      generalize w5.alloc (.cells #[.slice none 0 0, .slice none 0 0, .int .i64 0] 25) = w6 at *
      go_cut [] from 47 (fun wx => ∃ p6 bad6 m6, Hid (DM w wx G A L c Bf gc (.slice none 0 0) (.slice none 0 0) [] [] p6 bad6 m6) ∧ p6 ≤ L ∧ Hid (FunsR Bf L v8 0 [] p6 bad6 m6))
      case first =>
        cases bad5 with
        | true =>
          have F5 := Lib.hid (funsR_bad (nv := v8) (k := 0) (fs := []) (m := 0) C5.out)
          clear C5
          go_wp2_with fail
          go_meet
          case rel => exact ⟨p5, true, 0, S5, hp5, F5⟩
        | false =>
          obtain ⟨n, rfl, hn1, hn2, hrun⟩ : ∃ n : Nat, v8 = (n : Int) ∧ 1 ≤ n ∧ n ≤ 4294967295 ∧ Hid (run Bf L pAll 0 = run Bf L (k2 n) p5) := by
            rcases C5.out with ⟨h, _⟩ | ⟨_, n, h1, h2, h3, h4⟩
            · cases h
            · exact ⟨n, h1, h2, h3, h4⟩
          have NM := Lib.hid (S5.out.take HG.out hp5 hL hc hc2 (n := 4) (lo := 0) (hi := n - 1) (by omega) (by omega) (by omega) (by omega) (ni := 4) (li := 0) (hi' := (n : Int) - 1) rfl rfl (by omega))
          have HF : Hid (∀ p2 bad2 v, NumR Bf L 4 0 (n - 1) p5 false p2 bad2 v → FunsR Bf L (n : Int) 0 [] p2 bad2 v) := fun p2 bad2 v hN => funsR_zero rfl hn1 hn2 hrun.out hN
          clear C5 hrun
          go_wp2_with (first | (go_at_call 35; refine NM.out.mono ?_; rintro e w7 ⟨v6, p6, bad6, rfl, hv6, hS6, hp6, hR6, ho6⟩; have S6 := Lib.hid hS6; have F6 := Lib.hid (HF.out _ _ _ hR6); have y6 : w7.cell? ⟨gc, 2, none⟩ = some (.int .i64 0) := S6.out.cb.cell 2; have z6 : ∀ i, w7.frozen? ⟨gc, i, none⟩ = false := S6.out.cb.frozen; have l6 := S6.out.cb.lt; clear hS6 hR6 ho6))
          have S7 := Lib.hid (S6.out.main HG.out v6)
          clear S6 NM HF y6 z6 l6
          go_meet
          case rel => exact ⟨p6, bad6, v6, S7, hp6, F6⟩
      case rest =>
        obtain ⟨p6, bad6, m6, S6, hp6, F6⟩ := hcut
        clear S5 C5
        have FZ : Hid (bad6 = false → (0 : Int) = firstL ([] : List Fn)) := fun _ => rfl
        go_wp2_with fail
        go_loopg [10, 11] (v8.toNat) (fun gk ov kv wx => ∃ (k : Nat) (fi : Int) (fv : Value) (fs : List Fn) (p : Nat) (bad : Bool), ov = .int .i64 fi ∧ kv = .int .i64 (k : Int) ∧ k ≤ 4294967296 ∧ v8.toNat ≤ k + gk ∧ p ≤ L ∧ Hid (DM w wx G A L c Bf gc (.slice none 0 0) fv [] fs p bad m6) ∧ Hid (FunsR Bf L v8 k fs p bad m6) ∧ Hid (bad = false → fi = firstL fs))
        case atStart => exact ⟨0, 0, (.slice none 0 0), [], p6, bad6, rfl, rfl, by omega, by omega, hp6, S6, F6, FZ⟩
        case round =>
          clear S6 F6 hp6 FZ
          obtain ⟨k, fi, fv, fs, p, bad, rfl, rfl, hkm, hgk, hp, S, F, FI⟩ := hrel
          have a2 : wr.cell? ⟨w.heap.size + 1, 2, none⟩ = some (.bool bad) := S.out.b.cell 2
          have hr5 := S.out.b.lt
          go_upto_region 15 with fail
          go_cut [62] from 53 to 98 (fun x60 wx => x60 = .bool (decide ((k : Int) < v8) && !bad) ∧ wx = wr)
          case first =>
            by_cases hkv : (k : Int) < v8 <;> cases bad
            all_goals go_wp2_with fail
            all_goals go_meet
            all_goals (try (case rel => exact ⟨by first | rfl | trivial | simp [hkv], by first | rfl | trivial⟩))
          case rest =>
            obtain ⟨hx, hw⟩ := hcut
            subst hw hx
            obtain ⟨t, HT⟩ : ∃ t, Hid ((decide ((k : Int) < v8) && !bad) = t) := ⟨_, rfl⟩
            rw [HT.out]
            cases t with
            | true =>
              obtain ⟨hkv, hbad⟩ := (test2 _ _ _ HT.out).1 rfl
              subst hbad
              have hkv2 := of_decide_eq_true hkv
              obtain ⟨n, mm, rfl, rfl, h1, h2, hmn, hk, hkn, h15, hs, hrun⟩ : ∃ n mm : Nat, v8 = (n : Int) ∧ m6 = (mm : Int) ∧ 1 ≤ n ∧ n ≤ 4294967295 ∧ mm < n ∧ Hid (fs.length = k) ∧ k ≤ n ∧ 15 * k ≤ p ∧ Hid (FsOk mm fs) ∧ Hid (run Bf L pAll 0 = run Bf L (pFns mm (n - k) fs (k3 mm)) p) := by
                rcases F.out with ⟨h, _⟩ | ⟨_, n, mm, h0, hm, h1, h2, hmn, hk, hkn, h15, hs, hrun⟩
                · cases h
                · exact ⟨n, mm, h0, hm, h1, h2, hmn, hk, hkn, h15, hs, hrun⟩
              rw [Int.toNat_natCast] at hgk
              have hfi := FI.out rfl
              subst hfi
              have hfl : fs.length ≤ 300000000 := by rw [hk.out]; omega
              obtain ⟨hb1, hb2⟩ := FsOk.first _ _ rfl hs.out
              have hb3 : firstL fs ≤ 2000000000000000000 := by omega
              obtain ⟨FA, fcap, rfl, hfle, hfcm, _⟩ := own_shape S.out.fm
              unfold maxLen at hfcm
              have FN : Hid (∀ fs' p2 bad2, ((bad2 = true ∧ ∀ K, run Bf L (pFn mm fs K) p = .bad p2) ∨ (bad2 = false ∧ p + 15 ≤ p2 ∧ ∃ f, fs' = fs ++ [f] ∧ FnG mm fs f ∧ ∀ K, run Bf L (pFn mm fs K) p = run Bf L (K f) p2)) → FunsR Bf L (n : Int) (k + 1) fs' p2 bad2 (mm : Int)) := fun fs' p2 bad2 h => funsR_step rfl rfl h1 h2 hmn hk.out (by omega) h15 hs.out hrun.out h
              have MN : Hid (((k : Int) == (mm : Int)) = decide (fs.length = mm)) := by show _ = _; rw [hk.out, Bool.eq_iff_iff]; simp; omega
              have SF := Lib.hid (DF.start S.out (ff := #[.string ⟨#[]⟩, .int .i64 0, .int .i64 (firstL fs), .int .i64 0, .int .i64 0]))
              clear F HT hkv hrun hs hk S FI hb2
              obtain ⟨g1, hg1⟩ : ∃ g1, Hid (wc.heap.size = g1) := ⟨_, rfl⟩
              rw [hg1.out] at SF
              have K1 : Hid (∀ w' p' b' ff', DF w w' G A L c Bf gc (.slice none 0 0) FA fcap [] fs p' b' (mm : Int) g1 ff' → p' ≤ L → Calls Try.prog 35 #[.pointer (some ⟨w.heap.size + 1, 0, none⟩), .int .i64 1, .int .u64 1, .int .u64 64] w' fun e w2 => ∃ v p2 bad2, e = .returned (.int .i64 v) ∧ i64in v ∧ DF w w2 G A L c Bf gc (.slice none 0 0) FA fcap [] fs p2 bad2 (mm : Int) g1 ff' ∧ p2 ≤ L ∧ NumR Bf L 1 1 64 p' b' p2 bad2 v) :=
                fun w' p' b' ff' h hp' => h.take HG.out hp' hL hc hc2 (by omega) (by omega) (by omega) (by omega) rfl rfl rfl
              have K8 : Hid (∀ w' p' b' ff', DF w w' G A L c Bf gc (.slice none 0 0) FA fcap [] fs p' b' (mm : Int) g1 ff' → p' ≤ L → Calls Try.prog 35 #[.pointer (some ⟨w.heap.size + 1, 0, none⟩), .int .i64 8, .int .u64 2, .int .u64 1099511627776] w' fun e w2 => ∃ v p2 bad2, e = .returned (.int .i64 v) ∧ i64in v ∧ DF w w2 G A L c Bf gc (.slice none 0 0) FA fcap [] fs p2 bad2 (mm : Int) g1 ff' ∧ p2 ≤ L ∧ NumR Bf L 8 2 1099511627776 p' b' p2 bad2 v) :=
                fun w' p' b' ff' h hp' => h.take HG.out hp' hL hc hc2 (by omega) (by omega) (by omega) (by omega) rfl rfl rfl
              have K4 : Hid (∀ w' p' b' ff', DF w w' G A L c Bf gc (.slice none 0 0) FA fcap [] fs p' b' (mm : Int) g1 ff' → p' ≤ L → Calls Try.prog 35 #[.pointer (some ⟨w.heap.size + 1, 0, none⟩), .int .i64 4, .int .u64 1, .int .u64 4294967295] w' fun e w2 => ∃ v p2 bad2, e = .returned (.int .i64 v) ∧ i64in v ∧ DF w w2 G A L c Bf gc (.slice none 0 0) FA fcap [] fs p2 bad2 (mm : Int) g1 ff' ∧ p2 ≤ L ∧ NumR Bf L 4 1 4294967295 p' b' p2 bad2 v) :=
                fun w' p' b' ff' h hp' => h.take HG.out hp' hL hc hc2 (by omega) (by omega) (by omega) (by omega) rfl rfl rfl
              have most_le : mostOf fs.length mm ≤ 8 := by unfold mostOf; split <;> omega
              have HMOST : Hid (∀ most : Nat, most ≤ 8 → ∀ w' p' b' ff', DF w w' G A L c Bf gc (.slice none 0 0) FA fcap [] fs p' b' (mm : Int) g1 ff' → p' ≤ L → Calls Try.prog 35 #[.pointer (some ⟨w.heap.size + 1, 0, none⟩), .int .i64 1, .int .u64 0, .int .u64 (most : Int)] w' fun e w2 => ∃ v p2 bad2, e = .returned (.int .i64 v) ∧ i64in v ∧ DF w w2 G A L c Bf gc (.slice none 0 0) FA fcap [] fs p2 bad2 (mm : Int) g1 ff' ∧ p2 ≤ L ∧ NumR Bf L 1 0 most p' b' p2 bad2 v) :=
                fun most hm w' p' b' ff' h hp' => h.take HG.out hp' hL hc hc2 (by omega) (by omega) (by omega) (by omega) rfl rfl rfl
              have KN : Hid (∀ w' p' b' ff' v u, DF w w' G A L c Bf gc (.slice none 0 0) FA fcap [] fs p' b' (mm : Int) g1 ff' → p' ≤ L → i64in v → (b' = false → v = ((u : Nat) : Int) ∧ 1 ≤ u ∧ u ≤ 64) → Calls Try.prog 36 #[.pointer (some ⟨w.heap.size + 1, 0, none⟩), .int .i64 v, .slice FA fs.length fcap] w' fun e w2 => ∃ s p2 bad2, e = .returned (.string s) ∧ s.size ≤ 64 ∧ DF w w2 G A L c Bf gc (.slice none 0 0) FA fcap [] fs p2 bad2 (mm : Int) g1 ff' ∧ p2 ≤ L ∧ ((b' = true ∧ bad2 = true ∧ p2 = p') ∨ (b' = false ∧ NamR Bf L p' u fs s p2 bad2))) :=
                fun w' p' b' ff' v u h hp' hv0 hv => h.name HG.out hp' hL hc hc2 hfl hv0 hv
              go_upto_region 18 with fail
              rw [hg1.out]
              go_upto_if 84 with (first
                | (have X4 := T4; go_at_call 35; refine (K4.out _ _ _ _ (X4.out.put HG.out 1 _) hq4).mono ?_; rintro e w9 ⟨v9, q5, b5, rfl, hv9, hT5, hq5, hR5⟩; have T5 := Lib.hid hT5; have R5 := Lib.hid hR5; have y5 : w9.cell? ⟨g1, 3, none⟩ = some (.int .i64 0) := T5.out.fb.cell 3; have z5 : ∀ i, w9.frozen? ⟨g1, i, none⟩ = false := T5.out.fb.frozen; have l5 := T5.out.fb.lt; have gm5 : w9.cell? ⟨gc, 2, none⟩ = some (.int .i64 (mm : Int)) := T5.out.dm.cb.cell 2; have gl5 := T5.out.dm.cb.lt; have ne5 : gc ≠ g1 := Blk.ne_ T5.out.dm.cb T5.out.fb (by decide); clear hT5 hR5)
                | (have X3 := T3; go_at_call 35; refine (K8.out _ _ _ _ (X3.out.put HG.out 0 _) hq3).mono ?_; rintro e w8' ⟨v8', q4, b4, rfl, hv8', hT4, hq4, hR4⟩; have T4 := Lib.hid hT4; have R4 := Lib.hid hR4; have y4 : w8'.cell? ⟨g1, 1, none⟩ = some (.int .i64 0) := T4.out.fb.cell 1; have z4 : ∀ i, w8'.frozen? ⟨g1, i, none⟩ = false := T4.out.fb.frozen; have l4 := T4.out.fb.lt; clear hT4 hR4)
                | (have X2 := T2; go_at_call 36; refine (KN.out _ _ _ _ _ _ X2.out hq2 hv2 (nameR_of R2.out)).mono ?_; rintro e w7 ⟨s, q3, b3, rfl, hs3, hT3, hq3, hR3⟩; have T3 := Lib.hid hT3; have R3 := Lib.hid hR3; have y3 : w7.cell? ⟨g1, 0, none⟩ = some (.string ⟨#[]⟩) := T3.out.fb.cell 0; have z3 : ∀ i, w7.frozen? ⟨g1, i, none⟩ = false := T3.out.fb.frozen; have l3 := T3.out.fb.lt; clear hT3 hR3)
                | (go_at_call 35; refine (K1.out _ _ _ _ SF.out hp).mono ?_; rintro e w6' ⟨v2, q2, b2, rfl, hv2, hT2, hq2, hR2⟩; have T2 := Lib.hid hT2; have R2 := Lib.hid hR2; have y2 : w6'.cell? ⟨gc, 1, none⟩ = some (.slice FA fs.length fcap) := T2.out.dm.cb.cell 1; have l2 := T2.out.dm.cb.lt; clear hT2 hR2))
              have T6 : Hid (DF w (w9.setCell ⟨g1, 3, none⟩ (.int .i64 v9)) G A L c Bf gc (.slice none 0 0) FA fcap [] fs q5 b5 (mm : Int) g1 #[.string s, .int .i64 v8', .int .i64 (firstL fs), .int .i64 v9, .int .i64 0]) := T5.out.put HG.out 3 _
              clear T2 T3 T4 T5 X2 X3 X4 K1 K4 K8 KN SF y2 y3 y4 z3 z4 l2 l3 l4 z5
              obtain ⟨mb, HMB⟩ : ∃ mb, Hid (((k : Int) == (mm : Int)) = mb) := ⟨_, rfl⟩
              rw [HMB.out] at MN ⊢
              generalize w9.setCell ⟨g1, 3, none⟩ (.int .i64 v9) = wa at *
              obtain ⟨most, HMO⟩ : ∃ most, Hid (mostOf fs.length mm = most) := ⟨_, rfl⟩
              rw [HMO.out] at most_le
              have HM1 : Hid (mb = true → most = 0) := fun h => by rw [← HMO.out]; rw [MN.out] at h; exact if_pos (of_decide_eq_true h)
              have HM0 : Hid (mb = false → most = 8) := fun h => by rw [← HMO.out]; rw [MN.out] at h; exact if_neg (of_decide_eq_false h)
              clear y5 gm5 ne5 gl5 l5
              go_cut [14] from 85 to 98 (fun x14 wx => x14 = .int .u64 (most : Int) ∧ Hid (DF w wx G A L c Bf gc (.slice none 0 0) FA fcap [] fs q5 b5 (mm : Int) g1 #[.string s, .int .i64 v8', .int .i64 (firstL fs), .int .i64 v9, .int .i64 0]))
              case first =>
                cases mb with
                | true =>
                  have e := HM1.out rfl
                  clear HM0 HM1 HMOST most_le
                  subst e
                  go_wp2_with fail
                  go_meet
                  case rel => exact ⟨by first | rfl | trivial, T6⟩
                | false =>
                  have e := HM0.out rfl
                  clear HM0 HM1 HMOST most_le
                  subst e
                  go_wp2_with fail
                  go_meet
                  case rel => exact ⟨by first | rfl | trivial, T6⟩
              case rest =>
                obtain ⟨rfl, T6'⟩ := hcut
                clear T6
                go_upto_region 26 with (first
                  | (go_at_call 35; refine (HMOST.out _ most_le _ _ _ _ T6'.out hq5).mono ?_; rintro e w10 ⟨v10, q6, b6, rfl, hv10, hT7, hq6, hR6⟩; have T7 := Lib.hid hT7; have R6 := Lib.hid hR6; have z7 : ∀ j, w10.frozen? ⟨g1, j, none⟩ = false := T7.out.fb.frozen; have y7 : w10.cell? ⟨g1, 4, none⟩ = some (.int .i64 0) := T7.out.fb.cell 4; have l7 := T7.out.fb.lt; clear hT7 hR6))
                have T8 : Hid (DF w (w10.setCell ⟨g1, 4, none⟩ (.int .i64 v10)) G A L c Bf gc (.slice none 0 0) FA fcap [] fs q6 b6 (mm : Int) g1 #[.string s, .int .i64 v8', .int .i64 (firstL fs), .int .i64 v9, .int .i64 v10]) := T7.out.put HG.out 4 _
                rw [← HMO.out] at R6
                have PL := Lib.hid (fun_plainD R2.out rfl R3.out R4.out R5.out R6.out)
                have FE : Hid (b6 = false → wrap64 (firstL fs + v9) = firstL (fs ++ [(⟨s, v8', firstL fs, v9, v10⟩ : Fn)])) := fun hb => by
                  rcases PL.out with ⟨h, _⟩ | ⟨_, _, hg, _⟩
                  · rw [hb] at h; cases h
                  · rw [firstL_snoc]
                    have := hg.2.2.2.1
                    have := hg.2.2.2.2.1
                    exact IntWalk.wrap64_in _ ⟨by simp only at *; omega, by simp only at *; omega⟩
                have F9 : Hid (FunsR Bf L (n : Int) (k + 1) (fs ++ [(⟨s, v8', firstL fs, v9, v10⟩ : Fn)]) q6 b6 (mm : Int)) := FN.out _ _ _ (by
                  rcases PL.out with h | ⟨h1, h2, h3, h4⟩
                  · exact .inl h
                  · exact .inr ⟨h1, h2, _, rfl, h3, h4⟩)
                clear T7 R2 R3 R4 R5 R6 PL FN HMOST HM0 HM1 HMO most_le MN HMB z7 y7 l7 T6'
                generalize w10.setCell ⟨g1, 4, none⟩ (.int .i64 v10) = wz at *
                have d0 : wz.cell? ⟨g1, 0, none⟩ = some (.string s) := T8.out.fb.cell 0
                have d1 : wz.cell? ⟨g1, 1, none⟩ = some (.int .i64 v8') := T8.out.fb.cell 1
                have d2 : wz.cell? ⟨g1, 2, none⟩ = some (.int .i64 (firstL fs)) := T8.out.fb.cell 2
                have d3 : wz.cell? ⟨g1, 3, none⟩ = some (.int .i64 v9) := T8.out.fb.cell 3
                have d4 : wz.cell? ⟨g1, 4, none⟩ = some (.int .i64 v10) := T8.out.fb.cell 4
                have e1 : wz.cell? ⟨gc, 1, none⟩ = some (.slice FA fs.length fcap) := T8.out.dm.cb.cell 1
                have dl := T8.out.fb.lt
                have el := T8.out.dm.cb.lt
                have APP := Lib.hid (fun (w11 : World) (nv : Value) hown hg => (T8.out.dm.quiet ((Only.refl (fun _ => False) wz).alloc (.cells #[.string s, .int .i64 v8', .int .i64 (firstL fs), .int .i64 v9, .int .i64 v10] 53))).appendF HG.out (w2 := w11) (nv := nv) (f := ⟨s, v8', firstL fs, v9, v10⟩) hown hg)
                have CBK : Hid (∀ w11, (wz.alloc (.cells #[.string s, .int .i64 v8', .int .i64 (firstL fs), .int .i64 v9, .int .i64 v10] 53)).grownBy w11 (Value.slice FA fs.length fcap).ownBlock → Blk w11 gc 25 #[(.slice none 0 0), .slice FA fs.length fcap, .int .i64 (mm : Int)]) := fun w11 hg => (T8.out.dm.cb.alloc _).grown hg (fun e => own_blk_ne T8.out.dm.fm T8.out.dm.cb (by decide) e.symm)
                have FM := Lib.hid T8.out.dm.fm
                have hHw : w.heap.size ≤ wz.heap.size := by have := T8.out.dm.b.lt; omega
                clear T8
                go_wp2_with (first
                  | (at_builtin; go_must (refine wpList_pushF rfl (.tmp 94) (.tmp 96) rfl ⟨s, v8', firstL fs, v9, v10⟩ rfl FM.out hHw wz.heap.size rfl rfl hfl ?_); go_must (intro g11 cap11 w11 hown11 hg11; have S11 := Lib.hid (APP.out _ _ hown11 hg11); have cb11 := CBK.out _ hg11; have k11 : w11.cell? ⟨gc, 1, none⟩ = some (.slice FA fs.length fcap) := cb11.cell 1; have zz11 : ∀ j, w11.frozen? ⟨gc, j, none⟩ = false := cb11.frozen; clear hown11 hg11 cb11)))
                go_roundg (gk - 1)
                case measure => omega
                case rel => exact ⟨k + 1, _, _, fs ++ [(⟨s, v8', firstL fs, v9, v10⟩ : Fn)], q6, b6, rfl, by go_num, by omega, by rw [Int.toNat_natCast]; omega, hq6, S11, F9, FE⟩
            | false =>
              have hkb := (test2 _ _ _ HT.out).2 rfl
              have BZ : Hid (BodR Bf L fs 0 [] p bad m6) := by
                rcases F.out with h | ⟨rfl, n, mm, h0, hm, h1, h2, hmn, hk, hkn, h15, hs, hrun⟩
                · exact .inl h
                · exact bodR_zero F.out h0 (fun _ => by have := of_decide_eq_false (hkb rfl); omega)
              clear F HT hkb hgk FI
              obtain ⟨FA, fcap, rfl, hfle, hfcm, hfg⟩ := own_shape S.out.fm
              unfold maxLen at hfcm
              have HFG := Lib.hid hfg
              clear hfg a2 hr5
              go_wp2_with fail
              go_loopg [15] (fs.length) (fun gk kv wx => ∃ (k : Nat) (iv : Value) (xs : List Ins) (p : Nat) (bad : Bool), kv = .int .i64 (k : Int) ∧ k ≤ fs.length ∧ fs.length ≤ k + gk ∧ p ≤ L ∧ Hid (DM w wx G A L c Bf gc iv (.slice FA fs.length fcap) xs fs p bad m6) ∧ Hid (BodR Bf L fs k xs p bad m6))
              case atStart => exact ⟨0, (.slice none 0 0), [], p, bad, rfl, by omega, by omega, hp, S, BZ⟩
              case round =>
                clear S BZ hp
                obtain ⟨k, iv, xs, p, bad, rfl, hkl, hgk, hp, S, F⟩ := hrel
                have a2 : wr.cell? ⟨w.heap.size + 1, 2, none⟩ = some (.bool bad) := S.out.b.cell 2
                have a4 : wr.cell? ⟨gc, 1, none⟩ = some (.slice FA fs.length fcap) := S.out.cb.cell 1
                have hr5 := S.out.b.lt
                have hr6 := S.out.cb.lt
                go_upto_region 29 with fail
                go_cut [110] from 99 to 157 (fun x60 wx => x60 = .bool (decide (k < fs.length) && !bad) ∧ wx = wr)
                case first =>
                  by_cases hkv : k < fs.length <;> cases bad
                  all_goals go_wp2_with fail
                  all_goals go_meet
                  all_goals (try (case rel => exact ⟨by first | rfl | trivial | simp [hkv], by first | rfl | trivial⟩))
                case rest =>
                  obtain ⟨hx, hw⟩ := hcut
                  subst hw hx
                  obtain ⟨t, HT⟩ : ∃ t, Hid ((decide (k < fs.length) && !bad) = t) := ⟨_, rfl⟩
                  rw [HT.out]
                  cases t with
                  | true =>
                    obtain ⟨hkv, hbad⟩ := (test2 _ _ _ HT.out).1 rfl
                    subst hbad
                    have hkv2 := of_decide_eq_true hkv
                    have I0 := Lib.hid (insR_zero F.out hkv2)
                    obtain ⟨cn, fi0, hcn, hfi0, hcn1, hfi1, hfb⟩ : ∃ cn fi0 : Nat, Hid ((fnF fs k).count = (cn : Int)) ∧ Hid ((fnF fs k).first = (fi0 : Int)) ∧ cn ≤ 4294967295 ∧ fi0 ≤ 2000000000000000000 ∧ Hid (FnB (fnF fs k) ∧ fs.length ≤ 300000000) := by
                      rcases I0.out with ⟨h, _⟩ | ⟨_, mm, cn, h0, hcn, hs, h3, h4, h5, h6, h7, h8⟩
                      · cases h
                      · have hd : fs.drop k = fnF fs k :: fs.drop (k + 1) := by
                          rw [List.drop_eq_getElem_cons hkv2]
                          congr 1
                          unfold fnF
                          rw [List.getD_eq_getElem?_getD, List.getElem?_eq_getElem hkv2]; rfl
                        have hsp : fs = fs.take k ++ fnF fs k :: fs.drop (k + 1) := by rw [← hd, List.take_append_drop]
                        have hg := hs _ _ _ hsp
                        have hfl : fs.length ≤ 300000000 := by omega
                        have hfb := hg.fnB (by rw [hsp] at hs; exact hs.pre) (by rw [List.length_take]; omega)
                        obtain ⟨fi0, hfi0⟩ := Int.eq_ofNat_of_zero_le hfb.fi1
                        exact ⟨cn, fi0, hcn, hfi0, by have := hg.2.2.2.2.1; omega, by have := hfb.fi2; omega, hfb, hfl⟩
                    obtain ⟨g, hgA, hgH, hgl, _⟩ := HFG.out (by omega)
                    subst hgA
                    obtain ⟨k0, k1, k2, k3, k4⟩ := FR.cells S.out.fm k hkv2
                    have hgl2 : g < wc.heap.size := by have := (World.ownsRow.lt S.out.fm g rfl).2; exact this
                    obtain ⟨f, hf⟩ : ∃ f, fnF fs k = f := ⟨_, rfl⟩
                    rw [hf] at k0 k1 k2 k3 k4 I0 hcn hfi0 hfb
                    rw [hcn.out] at k3
                    rw [hfi0.out] at k2
                    have S2 := Lib.hid (S.out.quiet ((Only.refl (fun _ => False) wc).alloc (.cells #[.string f.name, .int .i64 f.frame, .int .i64 (fi0 : Int), .int .i64 (cn : Int), .int .i64 f.params] 53)))
                    have BF := Lib.hid (Blk.new wc 53 #[.string f.name, .int .i64 f.frame, .int .i64 (fi0 : Int), .int .i64 (cn : Int), .int .i64 f.params])
                    clear S F HT hkv hf
                    obtain ⟨g0, HG0⟩ : ∃ g0, Hid (wc.heap.size = g0) := ⟨_, rfl⟩
                    rw [HG0.out] at BF
                    go_wp2_with fail
                    rw [HG0.out]
                    obtain ⟨gO, rfl⟩ : ∃ x, x = gk := ⟨_, rfl⟩
                    go_loopg [17] (cn) (fun gj jv wx => ∃ (j : Nat) (iv : Value) (xs : List Ins) (p : Nat) (bad : Bool), jv = .int .i64 ((fi0 : Int) + (j : Int)) ∧ j ≤ cn ∧ cn ≤ j + gj ∧ p ≤ L ∧ Hid (DM w wx G A L c Bf gc iv (.slice (some ⟨g, 0, none⟩) fs.length fcap) xs fs p bad m6) ∧ Hid (Blk wx g0 53 #[.string f.name, .int .i64 f.frame, .int .i64 (fi0 : Int), .int .i64 (cn : Int), .int .i64 f.params]) ∧ Hid (InsR Bf L fs k f j xs p bad m6))
                    case atStart => exact ⟨0, iv, xs, p, false, by simp, by omega, by omega, hp, S2, BF, I0⟩
                    case round =>
                      clear S2 BF I0 k0 k1 k2 k3 k4
                      obtain ⟨j, iv, xs, p, bad, rfl, hjl, hgj, hp, S, BF, F⟩ := hrel
                      have a2 : wr.cell? ⟨w.heap.size + 1, 2, none⟩ = some (.bool bad) := S.out.b.cell 2
                      have f0 : wr.cell? ⟨g0, 0, none⟩ = some (.string f.name) := BF.out.cell 0
                      have f1 : wr.cell? ⟨g0, 1, none⟩ = some (.int .i64 f.frame) := BF.out.cell 1
                      have f2 : wr.cell? ⟨g0, 2, none⟩ = some (.int .i64 (fi0 : Int)) := BF.out.cell 2
                      have f3 : wr.cell? ⟨g0, 3, none⟩ = some (.int .i64 (cn : Int)) := BF.out.cell 3
                      have f4 : wr.cell? ⟨g0, 4, none⟩ = some (.int .i64 f.params) := BF.out.cell 4
                      have fl := BF.out.lt
                      have hr5 := S.out.b.lt
                      go_upto_region 33 with fail
                      go_cut [133] from 120 to 157 (fun x60 wx => x60 = .bool (decide (j < cn) && !bad) ∧ wx = wr)
                      case first =>
                        by_cases hjv : j < cn <;> cases bad
                        all_goals go_wp2_with fail
                        all_goals go_meet
                        all_goals (try (case rel => exact ⟨by first | rfl | trivial | simp [hjv], by first | rfl | trivial⟩))
                      case rest =>
                        obtain ⟨hx, hw⟩ := hcut
                        subst hw hx
                        obtain ⟨t, HT⟩ : ∃ t, Hid ((decide (j < cn) && !bad) = t) := ⟨_, rfl⟩
                        rw [HT.out]
                        cases t with
                        | true =>
                          obtain ⟨hjv, hbad⟩ := (test2 _ _ _ HT.out).1 rfl
                          subst hbad
                          have hjv2 := of_decide_eq_true hjv
                          obtain ⟨hfs1, hxl⟩ : 1 ≤ fs.length ∧ xs.length ≤ 300000000 := by
                            rcases F.out with ⟨h, _⟩ | ⟨_, mm, cn', h0, hc', hs, h3, h4, h5, h6, h7, h8⟩
                            · cases h
                            · exact ⟨h3, by omega⟩
                          obtain ⟨IA, icap, rfl, hil, hicm, _⟩ := own_shape S.out.im
                          unfold maxLen at hicm
                          have IC : Hid (∀ last : Bool, last = decide (j + 1 = cn) → Calls Try.prog 37 #[.pointer (some ⟨w.heap.size + 1, 0, none⟩), .agg #[.slice IA xs.length icap, (.slice (some ⟨g, 0, none⟩) fs.length fcap), .int .i64 m6], .agg #[.string f.name, .int .i64 f.frame, .int .i64 (fi0 : Int), .int .i64 (cn : Int), .int .i64 f.params], .bool last] wc fun e w' => ∃ x p' bad', e = .returned (.tuple #[.agg #[.int .i64 x.op, .int .i64 x.a, .int .i64 x.b, .int .i64 x.c, .int .i64 x.n], .bool (!bad')]) ∧ Blk w' (w.heap.size + 1) 78 (lcells (.slice A L c) p' bad') ∧ Only (fun b => b = w.heap.size + 1) wc w' ∧ p' ≤ L ∧ FinR Bf L fs.length f last p x p' bad') := fun last _ => by
                            have := dins_c wc G (fun b hb => by have := HG.out b hb; have := S.out.bw.size; omega) A L c Bf (w.heap.size + 1) p IA xs.length icap (some ⟨g, 0, none⟩) fs.length fcap m6 f last S.out.b S.out.bl (fun hg => by have := HG.out _ hg; omega) hp hL hc hc2 hfb.out.1 hfs1 hfb.out.2
                            unfold fnV codeV at this
                            rw [hcn.out, hfi0.out] at this
                            exact this
                          have IN : Hid (∀ x p2 bad2 (last : Bool), last = decide (j + 1 = cn) → FinR Bf L fs.length f last p x p2 bad2 → InsR Bf L fs k f (j + 1) (xs ++ [x]) p2 bad2 m6) := fun x p2 bad2 last hl hF => by
                            rcases F.out with ⟨h, _⟩ | ⟨_, mm, cn', h0, hc', hs, h3, h4, h5, h6, h7, h8⟩
                            · cases h
                            · obtain rfl : cn = cn' := by have := hcn.out; omega
                              exact insR_step h0 hc' hs h3 h4 h5 h6 hjv2 h8 hl hF
                          have LN : Hid ((((fi0 : Int) + (j : Int)) == (fi0 : Int) + (cn : Int) - 1) = decide (j + 1 = cn)) := by show _ = _; rw [Bool.eq_iff_iff]; simp; omega
                          have c0 : wc.cell? ⟨gc, 0, none⟩ = some (.slice IA xs.length icap) := S.out.cb.cell 0
                          have c1 : wc.cell? ⟨gc, 1, none⟩ = some (.slice (some ⟨g, 0, none⟩) fs.length fcap) := S.out.cb.cell 1
                          have c2' : wc.cell? ⟨gc, 2, none⟩ = some (.int .i64 m6) := S.out.cb.cell 2
                          have cl := S.out.cb.lt
                          clear F HT hjv hfs1
                          go_upto_if 151 with (first
                            | (go_at_call 37; refine (IC.out _ LN.out).mono ?_; rintro e w7 ⟨x, p7, bad7, rfl, hb7, ho7, hp7, hF7⟩; have S7 := Lib.hid (S.out.turn HG.out ho7 hb7); have B7 := Lib.hid (BF.out.only ho7 (fun e => Blk.ne_ BF.out S.out.b (by decide) e)); have F7 := Lib.hid (IN.out _ _ _ _ LN.out hF7); clear hb7 hF7 ho7))
                          have S8 := Lib.hid (S7.out.quiet ((Only.refl (fun _ => False) w7).alloc (.cells #[.int .i64 x.op, .int .i64 x.a, .int .i64 x.b, .int .i64 x.c, .int .i64 x.n] 41)))
                          have B8 := Lib.hid (B7.out.alloc (.cells #[.int .i64 x.op, .int .i64 x.a, .int .i64 x.b, .int .i64 x.c, .int .i64 x.n] 41))
                          have BX := Lib.hid (Blk.new w7 41 #[.int .i64 x.op, .int .i64 x.a, .int .i64 x.b, .int .i64 x.c, .int .i64 x.n])
                          clear S7 B7 S BF IC IN
                          obtain ⟨gx, HGX⟩ : ∃ gx, Hid (w7.heap.size = gx) := ⟨_, rfl⟩
                          rw [HGX.out] at BX ⊢
                          generalize w7.alloc (.cells #[.int .i64 x.op, .int .i64 x.a, .int .i64 x.b, .int .i64 x.c, .int .i64 x.n] 41) = wy at *
                          cases bad7 with
                          | true =>
                            have F8 : Hid (InsR Bf L fs k f (j + 1) xs p7 true m6) := by
                              rcases F7.out with ⟨_, h⟩ | ⟨h, _⟩
                              · exact .inl ⟨rfl, h⟩
                              · cases h
                            clear F7 BX c0 c1 c2' f0 f1 f2 f3 f4
                            go_wp2_with fail
                            go_roundg (gk - 1)
                            case measure => omega
                            case rel => exact ⟨j + 1, (.slice IA xs.length icap), xs, p7, true, by simp [Int.add_assoc], by omega, by omega, hp7, S8, B8, F8⟩
                          | false =>
                            have APP := Lib.hid (fun (w11 : World) (nv : Value) hown hg => (S8.out.quiet ((Only.refl (fun _ => False) wy).alloc (.cells #[.int .i64 x.op, .int .i64 x.a, .int .i64 x.b, .int .i64 x.c, .int .i64 x.n] 41))).appendI HG.out (w2 := w11) (nv := nv) (x := x) hown hg)
                            have CBK : Hid (∀ w11, (wy.alloc (.cells #[.int .i64 x.op, .int .i64 x.a, .int .i64 x.b, .int .i64 x.c, .int .i64 x.n] 41)).grownBy w11 (Value.slice IA xs.length icap).ownBlock → Blk w11 gc 25 #[(.slice IA xs.length icap), (.slice (some ⟨g, 0, none⟩) fs.length fcap), .int .i64 m6]) := fun w11 hg => (S8.out.cb.alloc _).grown hg (fun e => own_blk_ne S8.out.im S8.out.cb (by decide) e.symm)
                            have IM := Lib.hid S8.out.im
                            have hHw : w.heap.size ≤ wy.heap.size := by have := S8.out.b.lt; omega
                            have x0 : wy.cell? ⟨gx, 0, none⟩ = some (.int .i64 x.op) := BX.out.cell 0
                            have x1 : wy.cell? ⟨gx, 1, none⟩ = some (.int .i64 x.a) := BX.out.cell 1
                            have x2 : wy.cell? ⟨gx, 2, none⟩ = some (.int .i64 x.b) := BX.out.cell 2
                            have x3 : wy.cell? ⟨gx, 3, none⟩ = some (.int .i64 x.c) := BX.out.cell 3
                            have x4 : wy.cell? ⟨gx, 4, none⟩ = some (.int .i64 x.n) := BX.out.cell 4
                            have xl := BX.out.lt
                            have e0 : wy.cell? ⟨gc, 0, none⟩ = some (.slice IA xs.length icap) := S8.out.cb.cell 0
                            have el := S8.out.cb.lt
                            have KB : Hid (∀ w11, (wy.alloc (.cells #[.int .i64 x.op, .int .i64 x.a, .int .i64 x.b, .int .i64 x.c, .int .i64 x.n] 41)).grownBy w11 (Value.slice IA xs.length icap).ownBlock → True) := fun _ _ => trivial
                            clear S8 c0 c1 c2' f0 f1 f2 f3 f4 KB BX
                            go_wp2_with (first
                              | (at_builtin; go_must (refine wpList_pushI rfl (.tmp 153) (.tmp 155) rfl x rfl IM.out hHw wy.heap.size rfl rfl hxl ?_); go_must (intro g11 cap11 w11 hown11 hg11; have S11 := Lib.hid (APP.out _ _ hown11 hg11); have B11 := Lib.hid (S11.out.2 _ _ (B8.out.alloc _)); have cb11 := CBK.out _ hg11; have k11 : w11.cell? ⟨gc, 0, none⟩ = some (.slice IA xs.length icap) := cb11.cell 0; have zz11 : ∀ j, w11.frozen? ⟨gc, j, none⟩ = false := cb11.frozen; clear hown11 hg11 cb11)))
                            go_roundg (gk - 1)
                            case measure => omega
                            case rel => exact ⟨j + 1, _, xs ++ [x], p7, false, by simp [Int.add_assoc], by omega, by omega, hp7, S11.out.1, B11, F7⟩
                        | false =>
                          have BD := Lib.hid (insR_done F.out hcn.out (fun hb => by have := (test2 _ _ _ HT.out).2 rfl hb; have := of_decide_eq_false this; omega))
                          clear F HT BF f0 f1 f2 f3 f4
                          go_wp2_with fail
                          go_roundg (gO - 1)
                          case measure => omega
                          case rel => exact ⟨k + 1, iv, xs, p, bad, by go_num, by omega, by omega, hp, S, BD⟩
                  | false =>
                    have hkb := (test2 _ _ _ HT.out).2 rfl
                    have b1 : wc.cell? ⟨w.heap.size + 1, 1, none⟩ = some (.int .i64 (p : Int)) := S.out.b.cell 1
                    have b3 : wc.cell? ⟨gc, 0, none⟩ = some iv := S.out.cb.cell 0
                    have b5 : wc.cell? ⟨gc, 2, none⟩ = some (.int .i64 m6) := S.out.cb.cell 2
                    have q0 : wc.cell? ⟨w.heap.size, 0, none⟩ = some (.slice none 0 0) := S.out.rc.cell 0
                    have q1 : wc.cell? ⟨w.heap.size, 1, none⟩ = some (.slice none 0 0) := S.out.rc.cell 1
                    have q2 : wc.cell? ⟨w.heap.size, 2, none⟩ = some (.int .i64 0) := S.out.rc.cell 2
                    have qz : ∀ j, wc.frozen? ⟨w.heap.size, j, none⟩ = false := S.out.rc.frozen
                    have ql := S.out.rc.lt
                    have EB : Hid (Blk (((wc.setCell ⟨w.heap.size, 0, none⟩ (.slice none 0 0)).setCell ⟨w.heap.size, 1, none⟩ (.slice none 0 0)).setCell ⟨w.heap.size, 2, none⟩ (.int .i64 0)).drew w.heap.size 25 #[.slice none 0 0, .slice none 0 0, .int .i64 0]) := (((S.out.rc.set_ 0 _).set_ 1 _).set_ 2 _).drew
                    have BB : Hid (∀ v0 v1 v2, Below w.heap.size w (((wc.setCell ⟨w.heap.size, 0, none⟩ v0).setCell ⟨w.heap.size, 1, none⟩ v1).setCell ⟨w.heap.size, 2, none⟩ v2)) := fun v0 v1 v2 => ((S.out.bw.setCell (p := ⟨w.heap.size, 0, none⟩) (Nat.le_refl _) v0).setCell (p := ⟨w.heap.size, 1, none⟩) (Nat.le_refl _) v1).setCell (p := ⟨w.heap.size, 2, none⟩) (Nat.le_refl _) v2
                    by_cases hfin : bad = false ∧ p = L
                    · obtain ⟨rfl, rfl⟩ := hfin
                      obtain ⟨mm, rfl, hrun⟩ : ∃ mm : Nat, m6 = (mm : Int) ∧ Hid (run Bf p pAll 0 = .good ⟨xs, fs, mm⟩) := by
                        obtain ⟨mm, h1, h2⟩ := bodR_done F.out (by have := of_decide_eq_false (hkb rfl); omega)
                        exact ⟨mm, h1, by show _ = _; rw [h2, run_done]⟩
                      obtain ⟨IA, icap, rfl, _, _, _⟩ := own_shape S.out.im
                      have GB : Hid (Blk (((wc.setCell ⟨w.heap.size, 0, none⟩ (.slice IA xs.length icap)).setCell ⟨w.heap.size, 1, none⟩ (.slice FA fs.length fcap)).setCell ⟨w.heap.size, 2, none⟩ (.int .i64 (mm : Int))) w.heap.size 25 #[.slice IA xs.length icap, (.slice FA fs.length fcap), .int .i64 (mm : Int)]) := ((S.out.rc.set_ 0 _).set_ 1 _).set_ 2 _
                      have o : Only (fun b => b = w.heap.size) wc (((wc.setCell ⟨w.heap.size, 0, none⟩ (.slice IA xs.length icap)).setCell ⟨w.heap.size, 1, none⟩ (.slice FA fs.length fcap)).setCell ⟨w.heap.size, 2, none⟩ (.int .i64 (mm : Int))) := (((Only.refl (fun b => b = w.heap.size) wc).setCell (.inl rfl) _).setCell (.inl rfl) _).setCell (.inl rfl) _
                      have EE : Hid (ReadPost Bf p w (.returned (.tuple #[.agg #[.slice IA xs.length icap, (.slice FA fs.length fcap), .int .i64 (mm : Int)], .int .i64 0, .int .i64 0])) (((wc.setCell ⟨w.heap.size, 0, none⟩ (.slice IA xs.length icap)).setCell ⟨w.heap.size, 1, none⟩ (.slice FA fs.length fcap)).setCell ⟨w.heap.size, 2, none⟩ (.int .i64 (mm : Int)))) :=
                        ⟨BB.out _ _ _, .inr (.inr ⟨by omega, _, .slice IA xs.length icap, (.slice FA fs.length fcap), hrun.out, rfl, own_only S.out.im o (fun b hb e => own_blk_ne S.out.im S.out.rc (by decide) (e ▸ hb)), own_only S.out.fm o (fun b hb e => own_blk_ne S.out.fm S.out.rc (by decide) (e ▸ hb))⟩)⟩
                      clear F HT hkb o S EB BB hrun
                      go_wp2_with fail
                      refine bodyPost_ret (results_cell3 rfl (a := ⟨w.heap.size, 0, none⟩) rfl rfl rfl (run_loadVar_row _ w.heap.size 25 25 #[.slice IA xs.length icap, (.slice FA fs.length fcap), .int .i64 (mm : Int)] (0, 0) _ GB.out Try.underlying25 rfl (by kernel_rfl))) rfl ?_
                      exact EE.out
                    · have hrun : Hid (run Bf L pAll 0 = .bad p) := by
                        rcases F.out with ⟨_, h⟩ | ⟨hb, _⟩
                        · exact h
                        · subst hb
                          obtain ⟨mm, _, h⟩ := bodR_done F.out (by have := of_decide_eq_false (hkb rfl); omega)
                          show _ = _
                          rw [h, run_rest _ (fun e => hfin ⟨rfl, e⟩)]
                      have hbp : bad = true ∨ (bad = false ∧ p < L) := by
                        cases bad
                        · exact .inr ⟨rfl, by have : ¬ p = L := fun e => hfin ⟨rfl, e⟩; omega⟩
                        · exact .inl rfl
                      have EE : Hid (ReadPost Bf L w (.returned (.tuple #[zeroC, .int .i64 (p : Int), .int .i64 220])) (((wc.setCell ⟨w.heap.size, 0, none⟩ (.slice none 0 0)).setCell ⟨w.heap.size, 1, none⟩ (.slice none 0 0)).setCell ⟨w.heap.size, 2, none⟩ (.int .i64 0)).drew) := ⟨(BB.out _ _ _).drew, .inr (.inl ⟨by omega, p, hrun.out, rfl⟩)⟩
                      clear F HT hkb hfin S BB hrun
                      rcases hbp with rfl | ⟨rfl, hpl⟩
                      · go_upto_region 39 with fail
                        go_region
                        all_goals go_wp2_with fail
                        all_goals refine bodyPost_ret (results_cell3 rfl (a := ⟨w.heap.size, 0, none⟩) rfl rfl rfl (run_loadVar_row _ w.heap.size 25 25 #[.slice none 0 0, .slice none 0 0, .int .i64 0] (0, 0) _ EB.out Try.underlying25 rfl (by kernel_rfl))) rfl ?_
                        all_goals exact EE.out
                      · go_upto_region 39 with fail
                        go_region
                        all_goals go_wp2_with fail
                        all_goals refine bodyPost_ret (results_cell3 rfl (a := ⟨w.heap.size, 0, none⟩) rfl rfl rfl (run_loadVar_row _ w.heap.size 25 25 #[.slice none 0 0, .slice none 0 0, .int .i64 0] (0, 0) _ EB.out Try.underlying25 rfl (by kernel_rfl))) rfl ?_
                        all_goals exact EE.out
end Go.Proofs.Ytafhjpehkfcmjaa
