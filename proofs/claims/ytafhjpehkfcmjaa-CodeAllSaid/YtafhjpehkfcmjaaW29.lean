/- code's Read: the walk. -/
import Derived.Test.YtafhjpehkfcmjaaW28
import Derived.Lib.SlBytesConst
import Derived.Deep.CutRange
import Derived.Deep.LoopGhost
set_option linter.unusedVariables false
set_option linter.unusedSimpArgs false
namespace Go.Proofs.Ytafhjpehkfcmjaa
open Go.RowKit
attribute [local go_sem ↓] Go.wp_at_zero Go.wp_at_succ
theorem test2 : ∀ (a b t : Bool), (a && !b) = t → (t = true → a = true ∧ b = false) ∧ (t = false → b = false → a = false) := by decide
theorem headL_at : ∀ j, j < 4 → ∃ b : Nat, b < 256 ∧ headL[j]? = some (UInt8.ofNat b) ∧ (#[.int .u8 113, .int .u8 114, .int .u8 49, .int .u8 54] : Array Value)[j]? = some (.int .u8 (b : Int))
  | 0, _ => ⟨113, by omega, rfl, rfl⟩
  | 1, _ => ⟨114, by omega, rfl, rfl⟩
  | 2, _ => ⟨49, by omega, rfl, rfl⟩
  | 3, _ => ⟨54, by omega, rfl, rfl⟩
  | n + 4, h => by omega
theorem RD.num {w wr : World} {G : Nat → Prop} {A : Option Addr} {L c : Nat} {Bf : Nat → UInt8} {iv fv : Value} {xs : List Ins} {fs : List Fn} {p : Nat} {bad : Bool} {m : Int} (hG : ∀ b, G b → b < w.heap.size) (h : RD w wr G A L c Bf iv fv xs fs p bad m) (hp : p ≤ L) (hL : L ≤ 300000000) (hc : L ≤ c) (hc2 : c ≤ 9223372036854775807) {n lo hi : Nat} (hn : 1 ≤ n) (hn2 : n ≤ 8) (hlo : lo < 18446744073709551616) (hhi : hi < 18446744073709551616) {ni li hi' : Int} (e1 : ni = (n : Int)) (e2 : li = (lo : Int)) (e3 : hi' = (hi : Int)) :
    Calls Try.prog 28 #[.pointer (some ⟨w.heap.size + 1 + 1, 0, none⟩), .int .i64 ni, .int .u64 li, .int .u64 hi'] wr fun e w' => ∃ v p' bad', e = .returned (.int .i64 v) ∧ i64in v ∧ RD w w' G A L c Bf iv fv xs fs p' bad' m ∧ p' ≤ L ∧ NumR Bf L n lo hi p bad p' bad' v ∧ Only (fun b => b = w.heap.size + 1 + 1) wr w' := by
  refine (h.rm.number (fun b hb => by have := hG b hb; omega) hp hL hc hc2 hn hn2 hlo hhi e1 e2 e3).mono ?_
  rintro e w' ⟨v, p', bad', rfl, hv, hm, ho, hR⟩
  exact ⟨v, p', bad', rfl, hv, h.turn ho hm, hR.le hp, hR, ho⟩
theorem RD.main {w wr : World} {G : Nat → Prop} {A : Option Addr} {L c : Nat} {Bf : Nat → UInt8} {iv fv : Value} {xs : List Ins} {fs : List Fn} {p : Nat} {bad : Bool} {m : Int} (hG : ∀ b, G b → b < w.heap.size) (h : RD w wr G A L c Bf iv fv xs fs p bad m) (m' : Int) : RD w (wr.setCell ⟨w.heap.size + 1 + 1, 5, none⟩ (.int .i64 m')) G A L c Bf iv fv xs fs p bad m' := by
  have o : Only (fun b => b = w.heap.size + 2) wr (wr.setCell ⟨w.heap.size + 1 + 1, 5, none⟩ (.int .i64 m')) := (Only.refl (fun b => b = w.heap.size + 2) wr).setCell (.inl rfl) _
  exact h.turn o (h.rm.turn (fun b hb => by have := hG b hb; omega) o (h.rm.b.set_ 5 _))
set_option maxRecDepth 100000 in
set_option maxHeartbeats 64000000 in
theorem read_c (w : World) (G : Nat → Prop) (hG : ∀ b, G b → b < w.heap.size) (A : Option Addr) (L c : Nat) (Bf : Nat → UInt8) (hB : BL w G A L Bf) (hL : L ≤ 300000000) (hc : L ≤ c) (hc2 : c ≤ 9223372036854775807) :
    Calls Try.prog 17 #[.slice A L c] w (ReadPost Bf L w) := by
  have HG := Lib.hid hG
  have S0 := Lib.hid (RD.start (w := w) (c := c) hB)
  clear hB hG
  have hmm := @run_makeMap Try.prog
  by_cases hlong : 268435456 < L
  · clear S0
    have E : Hid (ReadPost Bf L w (.returned (.tuple #[zeroC, .int .i64 0, .int .i64 2])) (w.alloc (.cells #[.slice none 0 0, .slice none 0 0, .int .i64 0] 25))) := ⟨ba (Below.refl _ _) _, .inl ⟨hlong, rfl⟩⟩
    go_enter Try.func17, Try.ntmps17
    go_wp2_with fail
    refine bodyPost_ret (results_cell3 rfl (a := ⟨w.heap.size, 0, none⟩) rfl rfl rfl (run_loadVar_row _ w.heap.size 25 25 #[.slice none 0 0, .slice none 0 0, .int .i64 0] (0, 0) _ (heap_alloc_new w _) Try.underlying25 rfl (by kernel_rfl))) rfl ?_
    exact E.out
  have kc := Lib.run_convert_bytes_const (P := Try.prog) (((w.alloc (.cells #[.slice none 0 0, .slice none 0 0, .int .i64 0] 25)).alloc (.map #[] 0)).alloc (.cells #[.slice A L c, .int .i64 0, .bool false, .slice none 0 0, .slice none 0 0, .int .i64 0, .map (some (w.heap.size + 1))] 67)) 28 5 #[.int .u8 113, .int .u8 114, .int .u8 49, .int .u8 54] 4 4 Try.underlying28 Try.underlying5
  have zk : (((w.alloc (.cells #[.slice none 0 0, .slice none 0 0, .int .i64 0] 25)).alloc (.map #[] 0)).alloc (.cells #[.slice A L c, .int .i64 0, .bool false, .slice none 0 0, .slice none 0 0, .int .i64 0, .map (some (w.heap.size + 1))] 67)).heap.size = w.heap.size + 1 + 1 + 1 := by simp
  rw [zk] at kc
  clear zk
  have S1 := Lib.hid (S0.out.quiet ((Only.refl _ _).alloc (.cells #[.int .u8 113, .int .u8 114, .int .u8 49, .int .u8 54] 5 (4, 5))))
  have MK : Hid (((((w.alloc (.cells #[.slice none 0 0, .slice none 0 0, .int .i64 0] 25)).alloc (.map #[] 0)).alloc (.cells #[.slice A L c, .int .i64 0, .bool false, .slice none 0 0, .slice none 0 0, .int .i64 0, .map (some (w.heap.size + 1))] 67)).alloc (.cells #[.int .u8 113, .int .u8 114, .int .u8 49, .int .u8 54] 5 (4, 5))).heap[w.heap.size + 1 + 1 + 1]? = some (.cells #[.int .u8 113, .int .u8 114, .int .u8 49, .int .u8 54] 5 (4, 5))) := by
    have := heap_alloc_new (((w.alloc (.cells #[.slice none 0 0, .slice none 0 0, .int .i64 0] 25)).alloc (.map #[] 0)).alloc (.cells #[.slice A L c, .int .i64 0, .bool false, .slice none 0 0, .slice none 0 0, .int .i64 0, .map (some (w.heap.size + 1))] 67)) (.cells #[.int .u8 113, .int .u8 114, .int .u8 49, .int .u8 54] 5 (4, 5))
    have z : (((w.alloc (.cells #[.slice none 0 0, .slice none 0 0, .int .i64 0] 25)).alloc (.map #[] 0)).alloc (.cells #[.slice A L c, .int .i64 0, .bool false, .slice none 0 0, .slice none 0 0, .int .i64 0, .map (some (w.heap.size + 1))] 67)).heap.size = w.heap.size + 1 + 1 + 1 := by simp
    rw [z] at this
    exact this
  have HR0 : Hid (HeadR Bf L 0 0 false) := .inr ⟨rfl, rfl⟩
  clear S0
  go_enter Try.func17, Try.ntmps17
  go_wp2_with fail
  go_loopw [24] (fun jv wx => ∃ j : Nat, j ≤ 4 ∧ jv = .int .i64 (j : Int) ∧ ∃ pj badj, Hid (RD w wx G A L c Bf (.slice none 0 0) (.slice none 0 0) [] [] pj badj 0) ∧ pj ≤ L ∧ Hid (wx.heap[w.heap.size + 1 + 1 + 1]? = some (.cells #[.int .u8 113, .int .u8 114, .int .u8 49, .int .u8 54] 5 (4, 5))) ∧ Hid (HeadR Bf L j pj badj)) (fun jv _ => 4 - (intOf jv).toNat)
  case atStart => exact ⟨0, by omega, rfl, 0, false, S1, by omega, MK, HR0⟩
  case round =>
    clear S1 MK HR0 kc
    obtain ⟨j, hj, rfl, pj, badj, S, hpj, MK, HRj⟩ := hrel
    by_cases hj4 : j < 4
    · obtain ⟨b, hb, hb1, hb2⟩ := headL_at j hj4
      have cb : wr.cell? ⟨w.heap.size + 1 + 1 + 1, j, none⟩ = some (.int .u8 (b : Int)) := (cell_of_row wr _ j _ 5 (4, 5) MK.out).trans hb2
      have hml := heap_lt MK.out
      have NJ := Lib.hid (S.out.num HG.out hpj hL hc hc2 (n := 1) (lo := b) (hi := b) (by omega) (by omega) (by omega) (by omega) (ni := 1) (li := b) (hi' := b) rfl rfl rfl)
      have HS : Hid (∀ p2 bad2 v, NumR Bf L 1 b b pj badj p2 bad2 v → HeadR Bf L (j + 1) p2 bad2) := fun p2 bad2 v hN => headR_step HRj.out hb1 hb hN
      clear hb1 hb2 HRj
      go_wp2_with (first | (go_at_call 28; refine NJ.out.mono ?_; rintro e w5 ⟨v5, p5, bad5, rfl, hv5, hS5, hp5, hR5, ho5⟩; have S5 := Lib.hid hS5; have H5 := Lib.hid (HS.out _ _ _ hR5); have M5 := Lib.hid ((ho5.block _ hml (by omega)).trans MK.out); clear hS5 hR5 ho5))
      go_roundw
      case rel => exact ⟨j + 1, by omega, by go_num, p5, bad5, S5, hp5, M5, H5⟩
      case measure => first | (simp [intOf]; done) | (simp [intOf]; omega)
    · have hj' : j = 4 := by omega
      subst hj'
      clear MK
      have NC := Lib.hid (S.out.num HG.out hpj hL hc hc2 (n := 4) (lo := 1) (hi := 4294967295) (by omega) (by omega) (by omega) (by omega) (ni := 4) (li := 1) (hi' := 4294967295) rfl rfl rfl)
      have HC : Hid (∀ p2 bad2 v, NumR Bf L 4 1 4294967295 pj badj p2 bad2 v → CntR Bf L p2 bad2 v) := fun p2 bad2 v hN => cntR_of HRj.out hN
      clear HRj S
      go_upto_if 41 with (first | (go_at_call 28; refine NC.out.mono ?_; rintro e w5 ⟨v8, p5, bad5, rfl, hv8, hS5, hp5, hR5, ho5⟩; have S5 := Lib.hid hS5; have C5 := Lib.hid (HC.out _ _ _ hR5); have a2 : w5.cell? ⟨w.heap.size + 1 + 1, 2, none⟩ = some (.bool bad5) := S5.out.rm.b.cell 2; have hr5 := S5.out.rm.b.lt; clear hS5 hR5 ho5))
      clear NC HC
      go_cut [] from 42 (fun wx => ∃ p6 bad6 m6, Hid (RD w wx G A L c Bf (.slice none 0 0) (.slice none 0 0) [] [] p6 bad6 m6) ∧ p6 ≤ L ∧ Hid (FunsR Bf L v8 0 [] p6 bad6 m6))
      case first =>
        cases bad5 with
        | true =>
          have F5 := Lib.hid (funsR_bad (nv := v8) (k := 0) (fs := []) (m := 0) C5.out)
          clear C5
          go_wp2_with fail
          go_meet
          case rel => exact ⟨p5, true, 0, S5, hp5, F5⟩
        | false =>
          obtain ⟨n, rfl, hn1, hn2, hrun⟩ : ∃ n : Nat, v8 = (n : Int) ∧ 1 ≤ n ∧ n ≤ 4294967295 ∧ Hid (run Bf L pAll 0 = run Bf L (k2 n) p5) := by
            rcases C5.out with ⟨h, _⟩ | ⟨_, n, h1, h2, h3, h4⟩
            · cases h
            · exact ⟨n, h1, h2, h3, h4⟩
          have NM := Lib.hid (S5.out.num HG.out hp5 hL hc hc2 (n := 4) (lo := 0) (hi := n - 1) (by omega) (by omega) (by omega) (by omega) (ni := 4) (li := 0) (hi' := (n : Int) - 1) rfl rfl (by omega))
          have HF : Hid (∀ p2 bad2 v, NumR Bf L 4 0 (n - 1) p5 false p2 bad2 v → FunsR Bf L (n : Int) 0 [] p2 bad2 v) := fun p2 bad2 v hN => funsR_zero rfl hn1 hn2 hrun.out hN
          clear C5 hrun
          go_wp2_with (first | (go_at_call 28; refine NM.out.mono ?_; rintro e w6 ⟨v6, p6, bad6, rfl, hv6, hS6, hp6, hR6, ho6⟩; have S6 := Lib.hid hS6; have F6 := Lib.hid (HF.out _ _ _ hR6); have y6 : w6.cell? ⟨w.heap.size + 1 + 1, 5, none⟩ = some (.int .i64 0) := S6.out.rm.b.cell 5; have z6 : ∀ i, w6.frozen? ⟨w.heap.size + 1 + 1, i, none⟩ = false := S6.out.rm.b.frozen; have l6 := S6.out.rm.b.lt; clear hS6 hR6 ho6))
          have S7 := Lib.hid (S6.out.main HG.out v6)
          clear S6 NM HF y6 z6 l6
          go_meet
          case rel => exact ⟨p6, bad6, v6, S7, hp6, F6⟩
      case rest =>
        obtain ⟨p6, bad6, m6, S6, hp6, F6⟩ := hcut
        clear S5 C5 a2 hr5
        go_wp2_with fail
        go_loopg [9] (v8.toNat) (fun gk kv wx => ∃ (k : Nat) (fv : Value) (fs : List Fn) (p : Nat) (bad : Bool), kv = .int .i64 (k : Int) ∧ k ≤ 4294967296 ∧ v8.toNat ≤ k + gk ∧ p ≤ L ∧ Hid (RD w wx G A L c Bf (.slice none 0 0) fv [] fs p bad m6) ∧ Hid (FunsR Bf L v8 k fs p bad m6))
        case atStart => exact ⟨0, (.slice none 0 0), [], p6, bad6, rfl, by omega, by omega, hp6, S6, F6⟩
        case round =>
          clear S6 F6 hp6
          obtain ⟨k, fv, fs, p, bad, rfl, hkm, hgk, hp, S, F⟩ := hrel
          have a2 : wr.cell? ⟨w.heap.size + 1 + 1, 2, none⟩ = some (.bool bad) := S.out.rm.b.cell 2
          have hr5 := S.out.rm.b.lt
          go_upto_region 13 with fail
          go_cut [60] from 51 to 71 (fun x60 wx => x60 = .bool (decide ((k : Int) < v8) && !bad) ∧ wx = wr)
          case first =>
            by_cases hkv : (k : Int) < v8 <;> cases bad
            all_goals go_wp2_with fail
            all_goals go_meet
            all_goals (try (case rel => exact ⟨by first | rfl | trivial | simp [hkv], by first | rfl | trivial⟩))
          case rest =>
            obtain ⟨hx, hw⟩ := hcut
            subst hw hx
            obtain ⟨t, HT⟩ : ∃ t, Hid ((decide ((k : Int) < v8) && !bad) = t) := ⟨_, rfl⟩
            rw [HT.out]
            cases t with
            | true =>
              obtain ⟨hkv, hbad⟩ := (test2 _ _ _ HT.out).1 rfl
              subst hbad
              have hkv2 := of_decide_eq_true hkv
              obtain ⟨n, mm, rfl, rfl, h1, h2, hmn, hk, hkn, h15, hs, hrun⟩ : ∃ n mm : Nat, v8 = (n : Int) ∧ m6 = (mm : Int) ∧ 1 ≤ n ∧ n ≤ 4294967295 ∧ mm < n ∧ Hid (fs.length = k) ∧ k ≤ n ∧ 15 * k ≤ p ∧ Hid (FsOk mm fs) ∧ Hid (run Bf L pAll 0 = run Bf L (pFns mm (n - k) fs (k3 mm)) p) := by
                rcases F.out with ⟨h, _⟩ | ⟨_, n, mm, h0, hm, h1, h2, hmn, hk, hkn, h15, hs, hrun⟩
                · cases h
                · exact ⟨n, mm, h0, hm, h1, h2, hmn, hk, hkn, h15, hs, hrun⟩
              rw [Int.toNat_natCast] at hgk
              have hfl : fs.length ≤ 300000000 := by rw [hk.out]; omega
              have hb1 := FsOk.first _ _ rfl hs.out
              have FC : Hid (∀ mn : Bool, mn = decide (fs.length = mm) → Calls Try.prog 29 #[.pointer (some ⟨w.heap.size + 1 + 1, 0, none⟩), .bool mn] wc (FunPost wc (w.heap.size + 1) G A L c Bf (w.heap.size + 2) (w.heap.size + 1) (.slice none 0 0) [] fs p (mm : Int) mm)) := fun mn hmn => rdfun_c wc (w.heap.size + 1) G (fun b hb => by have := HG.out b hb; omega) A L c Bf (w.heap.size + 2) (w.heap.size + 1) (.slice none 0 0) fv [] fs p (mm : Int) mm mn S.out.rm hp hL hc hc2 hmn hfl hb1.1 (by omega) (fun fs0 l he => hs.out.lastB he)
              have FN : Hid (∀ fs' p2 bad2, ((bad2 = true ∧ ∀ K, run Bf L (pFn mm fs K) p = .bad p2) ∨ (bad2 = false ∧ p + 15 ≤ p2 ∧ ∃ f, fs' = fs ++ [f] ∧ FnG mm fs f ∧ ∀ K, run Bf L (pFn mm fs K) p = run Bf L (K f) p2)) → FunsR Bf L (n : Int) (k + 1) fs' p2 bad2 (mm : Int)) := fun fs' p2 bad2 h => funsR_step rfl rfl h1 h2 hmn hk.out (by omega) h15 hs.out hrun.out h
              have MN : Hid (((k : Int) == (mm : Int)) = decide (fs.length = mm)) := by show _ = _; rw [hk.out, Bool.eq_iff_iff]; simp; omega
              have a5 : wc.cell? ⟨w.heap.size + 1 + 1, 5, none⟩ = some (.int .i64 (mm : Int)) := S.out.rm.b.cell 5
              clear F HT hkv hrun hs hb1 hk
              go_wp2_with (first
                | (go_at_call 29; refine (FC.out _ MN.out).mono ?_; rintro e w7 ⟨rfl, fv7, fs7, p7, bad7, hm7, hb7, hp7, hF7⟩; have S7 := Lib.hid (S.out.step hb7 hm7); have F7 := Lib.hid (FN.out _ _ _ hF7); clear hm7 hb7 hF7))
              go_roundg (gk - 1)
              case measure => omega
              case rel => exact ⟨k + 1, fv7, fs7, p7, bad7, by go_num, by omega, by rw [Int.toNat_natCast]; omega, hp7, S7, F7⟩
            | false =>
              have hkb := (test2 _ _ _ HT.out).2 rfl
              have BZ : Hid (BodR Bf L fs 0 [] p bad m6) := by
                rcases F.out with h | ⟨rfl, n, mm, h0, hm, h1, h2, hmn, hk, hkn, h15, hs, hrun⟩
                · exact .inl h
                · exact bodR_zero F.out h0 (fun _ => by have := of_decide_eq_false (hkb rfl); omega)
              clear F HT hkb hgk
              obtain ⟨FA, fcap, rfl, hfle, hfcm, hfg⟩ := own_shape S.out.rm.fm
              unfold maxLen at hfcm
              have HFG := Lib.hid hfg
              clear hfg a2 hr5
              go_wp2_with fail
              go_loopg [10] (fs.length) (fun gk kv wx => ∃ (k : Nat) (iv : Value) (xs : List Ins) (p : Nat) (bad : Bool), kv = .int .i64 (k : Int) ∧ k ≤ fs.length ∧ fs.length ≤ k + gk ∧ p ≤ L ∧ Hid (RD w wx G A L c Bf iv (.slice FA fs.length fcap) xs fs p bad m6) ∧ Hid (BodR Bf L fs k xs p bad m6))
              case atStart => exact ⟨0, (.slice none 0 0), [], p, bad, rfl, by omega, by omega, hp, S, BZ⟩
              case round =>
                clear S BZ hp
                obtain ⟨k, iv, xs, p, bad, rfl, hkl, hgk, hp, S, F⟩ := hrel
                have a2 : wr.cell? ⟨w.heap.size + 1 + 1, 2, none⟩ = some (.bool bad) := S.out.rm.b.cell 2
                have a4 : wr.cell? ⟨w.heap.size + 1 + 1, 4, none⟩ = some (.slice FA fs.length fcap) := S.out.rm.b.cell 4
                have hr5 := S.out.rm.b.lt
                go_upto_region 17 with fail
                go_cut [86] from 72 to 117 (fun x60 wx => x60 = .bool (decide (k < fs.length) && !bad) ∧ wx = wr)
                case first =>
                  by_cases hkv : k < fs.length <;> cases bad
                  all_goals go_wp2_with fail
                  all_goals go_meet
                  all_goals (try (case rel => exact ⟨by first | rfl | trivial | simp [hkv], by first | rfl | trivial⟩))
                case rest =>
                  obtain ⟨hx, hw⟩ := hcut
                  subst hw hx
                  obtain ⟨t, HT⟩ : ∃ t, Hid ((decide (k < fs.length) && !bad) = t) := ⟨_, rfl⟩
                  rw [HT.out]
                  cases t with
                  | true =>
                    obtain ⟨hkv, hbad⟩ := (test2 _ _ _ HT.out).1 rfl
                    subst hbad
                    have hkv2 := of_decide_eq_true hkv
                    have I0 := Lib.hid (insR_zero F.out hkv2)
                    obtain ⟨cn, hcn, hcn1, hfb⟩ : ∃ cn : Nat, Hid ((fnF fs k).count = (cn : Int)) ∧ cn ≤ 4294967295 ∧ Hid (FnB (fnF fs k) ∧ fs.length ≤ 300000000) := by
                      rcases I0.out with ⟨h, _⟩ | ⟨_, mm, cn, h0, hcn, hs, h3, h4, h5, h6, h7, h8⟩
                      · cases h
                      · have hd : fs.drop k = fnF fs k :: fs.drop (k + 1) := by
                          rw [List.drop_eq_getElem_cons hkv2]
                          congr 1
                          unfold fnF
                          rw [List.getD_eq_getElem?_getD, List.getElem?_eq_getElem hkv2]; rfl
                        have hsp : fs = fs.take k ++ fnF fs k :: fs.drop (k + 1) := by rw [← hd, List.take_append_drop]
                        have hg := hs _ _ _ hsp
                        have hfl : fs.length ≤ 300000000 := by omega
                        refine ⟨cn, hcn, by have := hg.2.2.2.2.1; omega, hg.fnB (by rw [hsp] at hs; exact hs.pre) (by rw [List.length_take]; omega), hfl⟩
                    obtain ⟨g, hgA, hgH, hgl, _⟩ := HFG.out (by omega)
                    subst hgA
                    obtain ⟨k0, k1, k2, k3, k4⟩ := FR.cells S.out.rm.fm k hkv2
                    have hgl2 : g < wc.heap.size := by have := (World.ownsRow.lt S.out.rm.fm g rfl).2; exact this
                    obtain ⟨f, hf⟩ : ∃ f, fnF fs k = f := ⟨_, rfl⟩
                    rw [hf] at k0 k1 k2 k3 k4 I0 hcn hfb
                    rw [hcn.out] at k3
                    have S2 := Lib.hid (S.out.quiet ((Only.refl (fun _ => False) wc).alloc (.cells #[.string f.name, .int .i64 f.frame, .int .i64 f.first, .int .i64 (cn : Int), .int .i64 f.params] 53)))
                    have BF := Lib.hid (Blk.new wc 53 #[.string f.name, .int .i64 f.frame, .int .i64 f.first, .int .i64 (cn : Int), .int .i64 f.params])
                    clear S F HT hkv hf
                    obtain ⟨g0, HG0⟩ : ∃ g0, Hid (wc.heap.size = g0) := ⟨_, rfl⟩
                    rw [HG0.out] at BF
                    go_wp2_with fail
                    rw [HG0.out]
                    obtain ⟨gO, rfl⟩ : ∃ x, x = gk := ⟨_, rfl⟩
                    go_loopg [12] (cn) (fun gj jv wx => ∃ (j : Nat) (iv : Value) (xs : List Ins) (p : Nat) (bad : Bool), jv = .int .i64 (j : Int) ∧ j ≤ cn ∧ cn ≤ j + gj ∧ p ≤ L ∧ Hid (RD w wx G A L c Bf iv (.slice (some ⟨g, 0, none⟩) fs.length fcap) xs fs p bad m6) ∧ Hid (Blk wx g0 53 #[.string f.name, .int .i64 f.frame, .int .i64 f.first, .int .i64 (cn : Int), .int .i64 f.params]) ∧ Hid (InsR Bf L fs k f j xs p bad m6))
                    case atStart => exact ⟨0, iv, xs, p, false, rfl, by omega, by omega, hp, S2, BF, I0⟩
                    case round =>
                      clear S2 BF I0 k0 k1 k2 k3 k4
                      obtain ⟨j, iv, xs, p, bad, rfl, hjl, hgj, hp, S, BF, F⟩ := hrel
                      have a2 : wr.cell? ⟨w.heap.size + 1 + 1, 2, none⟩ = some (.bool bad) := S.out.rm.b.cell 2
                      have f0 : wr.cell? ⟨g0, 0, none⟩ = some (.string f.name) := BF.out.cell 0
                      have f1 : wr.cell? ⟨g0, 1, none⟩ = some (.int .i64 f.frame) := BF.out.cell 1
                      have f2 : wr.cell? ⟨g0, 2, none⟩ = some (.int .i64 f.first) := BF.out.cell 2
                      have f3 : wr.cell? ⟨g0, 3, none⟩ = some (.int .i64 (cn : Int)) := BF.out.cell 3
                      have f4 : wr.cell? ⟨g0, 4, none⟩ = some (.int .i64 f.params) := BF.out.cell 4
                      have fl := BF.out.lt
                      have hr5 := S.out.rm.b.lt
                      go_upto_region 21 with fail
                      go_cut [107] from 97 to 117 (fun x60 wx => x60 = .bool (decide (j < cn) && !bad) ∧ wx = wr)
                      case first =>
                        by_cases hjv : j < cn <;> cases bad
                        all_goals go_wp2_with fail
                        all_goals go_meet
                        all_goals (try (case rel => exact ⟨by first | rfl | trivial | simp [hjv], by first | rfl | trivial⟩))
                      case rest =>
                        obtain ⟨hx, hw⟩ := hcut
                        subst hw hx
                        obtain ⟨t, HT⟩ : ∃ t, Hid ((decide (j < cn) && !bad) = t) := ⟨_, rfl⟩
                        rw [HT.out]
                        cases t with
                        | true =>
                          obtain ⟨hjv, hbad⟩ := (test2 _ _ _ HT.out).1 rfl
                          subst hbad
                          have hjv2 := of_decide_eq_true hjv
                          obtain ⟨hfs1, hxl⟩ : 1 ≤ fs.length ∧ xs.length ≤ 300000000 := by
                            rcases F.out with ⟨h, _⟩ | ⟨_, mm, cn', h0, hc', hs, h3, h4, h5, h6, h7, h8⟩
                            · cases h
                            · exact ⟨h3, by omega⟩
                          have IC : Hid (∀ last : Bool, last = decide (j + 1 = cn) → Calls Try.prog 30 #[.pointer (some ⟨w.heap.size + 1 + 1, 0, none⟩), .agg #[.string f.name, .int .i64 f.frame, .int .i64 f.first, .int .i64 (cn : Int), .int .i64 f.params], .bool last] wc (InsPost wc (w.heap.size + 1) G A L c Bf (w.heap.size + 2) (w.heap.size + 1) (.slice (some ⟨g, 0, none⟩) fs.length fcap) xs fs p m6 f last)) := fun last _ => by
                            have := rdins_c wc (w.heap.size + 1) G (fun b hb => by have := HG.out b hb; omega) A L c Bf (w.heap.size + 2) (w.heap.size + 1) iv (.slice (some ⟨g, 0, none⟩) fs.length fcap) xs fs p m6 f last S.out.rm hp hL hc hc2 hfb.out.1 hfs1 hfb.out.2 hxl
                            unfold fnV at this
                            rw [hcn.out] at this
                            exact this
                          have IN : Hid (∀ x p2 bad2 (last : Bool), last = decide (j + 1 = cn) → FinR Bf L fs.length f last p x p2 bad2 → InsR Bf L fs k f (j + 1) (xs ++ [x]) p2 bad2 m6) := fun x p2 bad2 last hl hF => by
                            rcases F.out with ⟨h, _⟩ | ⟨_, mm, cn', h0, hc', hs, h3, h4, h5, h6, h7, h8⟩
                            · cases h
                            · obtain rfl : cn = cn' := by have := hcn.out; omega
                              exact insR_step h0 hc' hs h3 h4 h5 h6 hjv2 h8 hl hF
                          have LN : Hid (((j : Int) == (cn : Int) - 1) = decide (j + 1 = cn)) := by show _ = _; rw [Bool.eq_iff_iff]; simp; omega
                          clear F HT hjv hfs1 hxl
                          go_wp2_with (first
                            | (go_at_call 30; refine (IC.out _ LN.out).mono ?_; rintro e w7 ⟨rfl, iv7, x7, p7, bad7, hm7, hb7, hk7, hp7, hF7⟩; have S7 := Lib.hid (S.out.step hb7 hm7); have B7 := Lib.hid (hk7 _ _ BF.out); have F7 := Lib.hid (IN.out _ _ _ _ LN.out hF7); clear hm7 hb7 hF7 hk7))
                          go_roundg (gk - 1)
                          case measure => omega
                          case rel => exact ⟨j + 1, iv7, _, p7, bad7, by go_num, by omega, by omega, hp7, S7, B7, F7⟩
                        | false =>
                          have BD := Lib.hid (insR_done F.out hcn.out (fun hb => by have := (test2 _ _ _ HT.out).2 rfl hb; have := of_decide_eq_false this; omega))
                          clear F HT BF f0 f1 f2 f3 f4
                          go_wp2_with fail
                          go_roundg (gO - 1)
                          case measure => omega
                          case rel => exact ⟨k + 1, iv, xs, p, bad, by go_num, by omega, by omega, hp, S, BD⟩
                  | false =>
                    have hkb := (test2 _ _ _ HT.out).2 rfl
                    have b1 : wc.cell? ⟨w.heap.size + 1 + 1, 1, none⟩ = some (.int .i64 (p : Int)) := S.out.rm.b.cell 1
                    have b3 : wc.cell? ⟨w.heap.size + 1 + 1, 3, none⟩ = some iv := S.out.rm.b.cell 3
                    have b5 : wc.cell? ⟨w.heap.size + 1 + 1, 5, none⟩ = some (.int .i64 m6) := S.out.rm.b.cell 5
                    have q0 : wc.cell? ⟨w.heap.size, 0, none⟩ = some (.slice none 0 0) := S.out.rc.cell 0
                    have q1 : wc.cell? ⟨w.heap.size, 1, none⟩ = some (.slice none 0 0) := S.out.rc.cell 1
                    have q2 : wc.cell? ⟨w.heap.size, 2, none⟩ = some (.int .i64 0) := S.out.rc.cell 2
                    have qz : ∀ j, wc.frozen? ⟨w.heap.size, j, none⟩ = false := S.out.rc.frozen
                    have ql := S.out.rc.lt
                    have EB : Hid (Blk (((wc.setCell ⟨w.heap.size, 0, none⟩ (.slice none 0 0)).setCell ⟨w.heap.size, 1, none⟩ (.slice none 0 0)).setCell ⟨w.heap.size, 2, none⟩ (.int .i64 0)).drew w.heap.size 25 #[.slice none 0 0, .slice none 0 0, .int .i64 0]) := (((S.out.rc.set_ 0 _).set_ 1 _).set_ 2 _).drew
                    have BB : Hid (∀ v0 v1 v2, Below w.heap.size w (((wc.setCell ⟨w.heap.size, 0, none⟩ v0).setCell ⟨w.heap.size, 1, none⟩ v1).setCell ⟨w.heap.size, 2, none⟩ v2)) := fun v0 v1 v2 => ((S.out.bw.setCell (p := ⟨w.heap.size, 0, none⟩) (Nat.le_refl _) v0).setCell (p := ⟨w.heap.size, 1, none⟩) (Nat.le_refl _) v1).setCell (p := ⟨w.heap.size, 2, none⟩) (Nat.le_refl _) v2
                    by_cases hfin : bad = false ∧ p = L
                    · obtain ⟨rfl, rfl⟩ := hfin
                      obtain ⟨mm, rfl, hrun⟩ : ∃ mm : Nat, m6 = (mm : Int) ∧ Hid (run Bf p pAll 0 = .good ⟨xs, fs, mm⟩) := by
                        obtain ⟨mm, h1, h2⟩ := bodR_done F.out (by have := of_decide_eq_false (hkb rfl); omega)
                        exact ⟨mm, h1, by show _ = _; rw [h2, run_done]⟩
                      obtain ⟨IA, icap, rfl, _, _, _⟩ := own_shape S.out.rm.im
                      have GB : Hid (Blk (((wc.setCell ⟨w.heap.size, 0, none⟩ (.slice IA xs.length icap)).setCell ⟨w.heap.size, 1, none⟩ (.slice FA fs.length fcap)).setCell ⟨w.heap.size, 2, none⟩ (.int .i64 (mm : Int))) w.heap.size 25 #[(.slice IA xs.length icap), (.slice FA fs.length fcap), .int .i64 (mm : Int)]) := ((S.out.rc.set_ 0 _).set_ 1 _).set_ 2 _
                      have o : Only (fun b => b = w.heap.size) wc (((wc.setCell ⟨w.heap.size, 0, none⟩ (.slice IA xs.length icap)).setCell ⟨w.heap.size, 1, none⟩ (.slice FA fs.length fcap)).setCell ⟨w.heap.size, 2, none⟩ (.int .i64 (mm : Int))) := (((Only.refl (fun b => b = w.heap.size) wc).setCell (.inl rfl) _).setCell (.inl rfl) _).setCell (.inl rfl) _
                      have EE : Hid (ReadPost Bf p w (.returned (.tuple #[.agg #[(.slice IA xs.length icap), (.slice FA fs.length fcap), .int .i64 (mm : Int)], .int .i64 0, .int .i64 0])) (((wc.setCell ⟨w.heap.size, 0, none⟩ (.slice IA xs.length icap)).setCell ⟨w.heap.size, 1, none⟩ (.slice FA fs.length fcap)).setCell ⟨w.heap.size, 2, none⟩ (.int .i64 (mm : Int)))) :=
                        ⟨BB.out _ _ _, .inr (.inr ⟨by omega, _, (.slice IA xs.length icap), (.slice FA fs.length fcap), hrun.out, rfl, own_mono (own_only S.out.rm.im o (fun b hb e => by have := (World.ownsRow.lt S.out.rm.im b hb).1; omega)) (Nat.le_succ _), own_mono (own_only S.out.rm.fm o (fun b hb e => by have := (World.ownsRow.lt S.out.rm.fm b hb).1; omega)) (Nat.le_succ _)⟩)⟩
                      clear F HT hkb o S EB BB hrun
                      go_wp2_with fail
                      refine bodyPost_ret (results_cell3 rfl (a := ⟨w.heap.size, 0, none⟩) rfl rfl rfl (run_loadVar_row _ w.heap.size 25 25 #[(.slice IA xs.length icap), (.slice FA fs.length fcap), .int .i64 (mm : Int)] (0, 0) _ GB.out Try.underlying25 rfl (by kernel_rfl))) rfl ?_
                      exact EE.out
                    · have hrun : Hid (run Bf L pAll 0 = .bad p) := by
                        rcases F.out with ⟨_, h⟩ | ⟨hb, _⟩
                        · exact h
                        · subst hb
                          obtain ⟨mm, _, h⟩ := bodR_done F.out (by have := of_decide_eq_false (hkb rfl); omega)
                          show _ = _
                          rw [h, run_rest _ (fun e => hfin ⟨rfl, e⟩)]
                      have hbp : bad = true ∨ (bad = false ∧ p < L) := by
                        cases bad
                        · exact .inr ⟨rfl, by have : ¬ p = L := fun e => hfin ⟨rfl, e⟩; omega⟩
                        · exact .inl rfl
                      have EE : Hid (ReadPost Bf L w (.returned (.tuple #[zeroC, .int .i64 (p : Int), .int .i64 220])) (((wc.setCell ⟨w.heap.size, 0, none⟩ (.slice none 0 0)).setCell ⟨w.heap.size, 1, none⟩ (.slice none 0 0)).setCell ⟨w.heap.size, 2, none⟩ (.int .i64 0)).drew) := ⟨(BB.out _ _ _).drew, .inr (.inl ⟨by omega, p, hrun.out, rfl⟩)⟩
                      clear F HT hkb hfin S BB hrun
                      rcases hbp with rfl | ⟨rfl, hpl⟩
                      · go_upto_region 25 with fail
                        go_region
                        all_goals go_wp2_with fail
                        all_goals refine bodyPost_ret (results_cell3 rfl (a := ⟨w.heap.size, 0, none⟩) rfl rfl rfl (run_loadVar_row _ w.heap.size 25 25 #[.slice none 0 0, .slice none 0 0, .int .i64 0] (0, 0) _ EB.out Try.underlying25 rfl (by kernel_rfl))) rfl ?_
                        all_goals exact EE.out
                      · go_upto_region 25 with fail
                        go_region
                        all_goals go_wp2_with fail
                        all_goals refine bodyPost_ret (results_cell3 rfl (a := ⟨w.heap.size, 0, none⟩) rfl rfl rfl (run_loadVar_row _ w.heap.size 25 25 #[.slice none 0 0, .slice none 0 0, .int .i64 0] (0, 0) _ EB.out Try.underlying25 rfl (by kernel_rfl))) rfl ?_
                        all_goals exact EE.out
end Go.Proofs.Ytafhjpehkfcmjaa
