/- the document's names: walks. the document's names, on. -/
import Derived.Test.YtkjfbojmkkdgoaaA3
import Derived.Deep.WholeRow
set_option linter.unusedVariables false
set_option linter.unusedSimpArgs false
namespace Go.Proofs.Ytkjfbojmkkdgoaa
open Go.RowKit
attribute [local go_sem ↓] Go.wp_at_zero Go.wp_at_succ
set_option maxRecDepth 100000 in
set_option maxHeartbeats 4000000 in
theorem digit_c (x : Nat) (hx : x < 256) (w : World) : Calls Try.prog 42 #[.int .u8 (x : Int)] w fun e w' => e = .returned (.bool (digit x)) ∧ w' = w := by
  go_enter Try.func42, Try.ntmps42
  go_wp2
  all_goals go_ret
  all_goals exact ⟨congrArg (fun b => Ending.returned (Value.bool b)) (by unfold digit; rw [Bool.eq_iff_iff]; simp only [Bool.or_eq_true, Bool.and_eq_true, beq_iff_eq, decide_eq_true_eq, Bool.false_eq_true, reduceCtorEq, true_iff, false_iff]; omega), rfl⟩
set_option maxRecDepth 100000 in
set_option maxHeartbeats 4000000 in
theorem letter_c (x : Nat) (hx : x < 256) (w : World) : Calls Try.prog 44 #[.int .u8 (x : Int)] w fun e w' => e = .returned (.bool (letter x)) ∧ w' = w := by
  rcases (show x = 95 ∨ x < 65 ∨ (65 ≤ x ∧ x ≤ 90) ∨ (91 ≤ x ∧ x ≤ 94) ∨ x = 96 ∨ (97 ≤ x ∧ x ≤ 122) ∨ 122 < x by omega) with h | h | h | h | h | h | h
  · subst h
    go_enter Try.func44, Try.ntmps44
    go_wp2
    all_goals go_ret
    all_goals exact ⟨rfl, rfl⟩
  all_goals
    have hne : ((x : Int) == 95) = false := beq_eq_false_iff_ne.2 (by omega)
    have hv : letter x = true ∨ letter x = false := by cases letter x <;> simp
    go_enter Try.func44, Try.ntmps44
    go_wp2
    all_goals go_ret
    all_goals refine ⟨congrArg (fun b => Ending.returned (Value.bool b)) ?_, rfl⟩
    all_goals (unfold letter; rw [Bool.eq_iff_iff]; simp only [Bool.or_eq_true, Bool.and_eq_true, beq_iff_eq, decide_eq_true_eq, Bool.false_eq_true, reduceCtorEq, true_iff, false_iff]; omega)
def wB (i : Nat) : ByteArray := ⟨(wordsL.getD i []).toArray⟩
def wordsV : Array Value := #[.string ⟨#[102, 117, 110, 99]⟩, .string ⟨#[118, 97, 114]⟩, .string ⟨#[105, 102]⟩, .string ⟨#[101, 108, 115, 101]⟩, .string ⟨#[102, 111, 114]⟩, .string ⟨#[114, 101, 116, 117, 114, 110]⟩, .string ⟨#[98, 114, 101, 97, 107]⟩, .string ⟨#[99, 111, 110, 116, 105, 110, 117, 101]⟩, .string ⟨#[112, 114, 105, 110, 116]⟩, .string ⟨#[112, 97, 110, 105, 99]⟩, .string ⟨#[105, 110, 112, 117, 116]⟩, .string ⟨#[108, 101, 110]⟩, .string ⟨#[109, 97, 107, 101]⟩, .string ⟨#[105, 110, 116]⟩, .string ⟨#[98, 111, 111, 108]⟩, .string ⟨#[116, 114, 117, 101]⟩, .string ⟨#[102, 97, 108, 115, 101]⟩, .string ⟨#[110, 105, 108]⟩]
theorem results_cell {P : Program} {fn : Func} {t : Tmp} {ty : TypeId} (h : fn.results = #[.cell t ty]) {tmps : Array Value} {a : Addr} (ht : tmps[t]?.getD undef = .pointer (some a)) {w : World} {v : Value} (hv : (loadVar ty a).run P w = .ok v w) : (results fn tmps).run P w = .ok v w := by
  simp [results, h, ht, asAddr, hv]
set_option maxRecDepth 100000 in
set_option maxHeartbeats 4000000 in
theorem words_c (w : World) : Calls Try.prog 98 #[] w fun e w' => e = .returned (.agg wordsV) ∧ Below w.heap.size w w' := by
  go_enter Try.func98, Try.ntmps98
  go_wp2_with fail
  refine bodyPost_ret (results_cell rfl (a := ⟨w.heap.size, 0, none⟩) rfl (run_loadVar_new w 112 wordsV 18 9 Try.underlying112 (by kernel_rfl))) rfl ?_
  exact ⟨rfl, ba (Below.refl _ _) _⟩
end Go.Proofs.Ytkjfbojmkkdgoaa
namespace Go.Proofs.Ytkjfbojmkkdgoaa
open Go.RowKit
attribute [local go_sem ↓] Go.wp_at_zero Go.wp_at_succ
def emptyV : Array Value := #[.string ⟨#[]⟩, .string ⟨#[]⟩, .string ⟨#[]⟩, .string ⟨#[]⟩, .string ⟨#[]⟩, .string ⟨#[]⟩, .string ⟨#[]⟩, .string ⟨#[]⟩, .string ⟨#[]⟩, .string ⟨#[]⟩, .string ⟨#[]⟩, .string ⟨#[]⟩, .string ⟨#[]⟩, .string ⟨#[]⟩, .string ⟨#[]⟩, .string ⟨#[]⟩, .string ⟨#[]⟩, .string ⟨#[]⟩]
theorem wordsV_at : ∀ i, i < 18 → wordsV[i]? = some (.string (wB i))
  | 0, _ => rfl
  | 1, _ => rfl
  | 2, _ => rfl
  | 3, _ => rfl
  | 4, _ => rfl
  | 5, _ => rfl
  | 6, _ => rfl
  | 7, _ => rfl
  | 8, _ => rfl
  | 9, _ => rfl
  | 10, _ => rfl
  | 11, _ => rfl
  | 12, _ => rfl
  | 13, _ => rfl
  | 14, _ => rfl
  | 15, _ => rfl
  | 16, _ => rfl
  | 17, _ => rfl
  | n + 18, h => by omega
theorem wB_list (i : Nat) : (wB i).toList = wordsL.getD i [] := by rw [ByteArray.toList_eq]; rfl
theorem isWord_iff (b : ByteArray) : isWordB b = true ↔ ∃ j, j < 18 ∧ ((wB j).toList == b.toList) = true := by
  unfold isWordB
  rw [List.any_eq_true]
  constructor
  · rintro ⟨l, hl, he⟩
    obtain ⟨j, hj, e⟩ := List.getElem_of_mem hl
    refine ⟨j, hj, ?_⟩
    rw [wB_list, List.getD_eq_getElem?_getD, List.getElem?_eq_getElem hj, e]
    rw [beq_iff_eq] at he ⊢
    exact he.symm
  · rintro ⟨j, hj, he⟩
    have hj' : j < wordsL.length := hj
    rw [wB_list, List.getD_eq_getElem?_getD, List.getElem?_eq_getElem hj', beq_iff_eq] at he
    exact ⟨wordsL[j], List.getElem_mem hj', by rw [beq_iff_eq]; exact he.symm⟩
set_option maxRecDepth 100000 in
set_option maxHeartbeats 4000000 in
theorem isWord_c (b : ByteArray) (w : World) : Calls Try.prog 43 #[.string b] w fun e w' => e = .returned (.bool (isWordB b)) ∧ Below w.heap.size w w' := by
  have WC := Lib.hid (words_c w)
  have hst : ∀ w1 : World, (storeCells ⟨w1.heap.size, 0, none⟩ wordsV.toList).run Try.prog (w1.alloc (.cells #[.string ⟨#[]⟩, .string ⟨#[]⟩, .string ⟨#[]⟩, .string ⟨#[]⟩, .string ⟨#[]⟩, .string ⟨#[]⟩, .string ⟨#[]⟩, .string ⟨#[]⟩, .string ⟨#[]⟩, .string ⟨#[]⟩, .string ⟨#[]⟩, .string ⟨#[]⟩, .string ⟨#[]⟩, .string ⟨#[]⟩, .string ⟨#[]⟩, .string ⟨#[]⟩, .string ⟨#[]⟩, .string ⟨#[]⟩] 112)) = .ok () (w1.alloc (.cells wordsV 112)) := fun w1 => run_storeCells_new (P := Try.prog) w1 112 #[.string ⟨#[]⟩, .string ⟨#[]⟩, .string ⟨#[]⟩, .string ⟨#[]⟩, .string ⟨#[]⟩, .string ⟨#[]⟩, .string ⟨#[]⟩, .string ⟨#[]⟩, .string ⟨#[]⟩, .string ⟨#[]⟩, .string ⟨#[]⟩, .string ⟨#[]⟩, .string ⟨#[]⟩, .string ⟨#[]⟩, .string ⟨#[]⟩, .string ⟨#[]⟩, .string ⟨#[]⟩, .string ⟨#[]⟩] wordsV (by kernel_rfl) rfl (by kernel_rfl)
  go_enter Try.func43, Try.ntmps43
  go_wp2_with (first | (go_at_call 98; refine WC.out.mono ?_; rintro e w1 ⟨rfl, hb⟩; have HB := Lib.hid hb; clear hb))
  have CB := Lib.hid (fun i hi => ((Blk.new w1 112 wordsV).cell i).trans (wordsV_at i hi))
  have EB := Lib.hid (ba HB.out (.cells wordsV 112))
  clear HB WC hst
  go_loop [4] (fun i => ∃ k : Nat, k ≤ 18 ∧ i = .int .i64 (k : Int) ∧ Hid (∀ j, j < k → ((wB j).toList == b.toList) = false)) (fun i => 18 - (intOf i).toNat)
  case atStart => exact ⟨0, by omega, rfl, fun j hj => absurd hj (Nat.not_lt_zero _)⟩
  case round =>
    obtain ⟨k, hk, rfl, HK⟩ := hrel
    by_cases hlt : k < 18
    · have cx := CB.out k hlt
      cases hc : ((wB k).toList == b.toList) with
      | true =>
        have E := Lib.hid ((isWord_iff b).2 ⟨k, hlt, hc⟩)
        clear CB HK
        go_wp2_with fail
        go_ret
        exact ⟨by rw [E.out]; rfl, EB.out⟩
      | false =>
        have HN : Hid (∀ j, j < k + 1 → ((wB j).toList == b.toList) = false) := fun j hj => by
          by_cases he : j = k
          · rw [he]; exact hc
          · exact HK.out j (by omega)
        clear CB HK
        go_wp2_with fail
        go_round
        case rel => exact ⟨k + 1, by omega, by go_num, HN⟩
        case measure => first | (simp [intOf]; done) | (simp [intOf]; omega)
    · have E : Hid (isWordB b = false) := by
        show isWordB b = false
        cases h : isWordB b with
        | false => rfl
        | true =>
          obtain ⟨j, hj, e⟩ := (isWord_iff b).1 h
          rw [HK.out j (by omega)] at e; cases e
      clear CB HK
      go_wp2_with fail
      go_ret
      exact ⟨by rw [E.out]; rfl, EB.out⟩
theorem bAt_eq (b : ByteArray) {k : Nat} (h : k < b.size) : (b[k]'h).toNat = bAt b k := by
  unfold bAt
  rw [List.getD_eq_getElem?_getD, Array.getElem?_toList]
  have hl : k < b.data.size := h
  rw [Array.getElem?_eq_getElem hl]
  rfl
set_option maxRecDepth 100000 in
set_option maxHeartbeats 4000000 in
theorem dname_c (b : ByteArray) (hb : b.size ≤ 9223372036854775807) (w : World) : Calls Try.prog 28 #[.string b] w (NamePost b w) := by
  have BAD := Lib.hid (fun (hn : ¬ NameOk b) (w' : World) (hw : Below w.heap.size w w') => show NamePost b w (.returned (.bool false)) w' from ⟨false, rfl, Iff.intro (fun h => by cases h) (fun h => absurd h hn), hw⟩)
  have GOOD := Lib.hid (fun (hr : NameOk b) (w' : World) (hw : Below w.heap.size w w') => show NamePost b w (.returned (.bool true)) w' from ⟨true, rfl, Iff.intro (fun _ => hr) (fun _ => rfl), hw⟩)
  have WC := Lib.hid (isWord_c b w)
  have DC := Lib.hid (fun x hx w' => digit_c x hx w')
  have LC := Lib.hid (fun x hx w' => letter_c x hx w')
  rcases Nat.eq_zero_or_pos b.size with h0 | h0
  · have E := Lib.hid (BAD.out (fun h => by have := h.1; omega) w (Below.refl _ _))
    have h0' : ((b.size : Int) == 0) = true := beq_iff_eq.2 (by omega)
    clear BAD GOOD
    go_enter Try.func28, Try.ntmps28
    go_wp2_with fail
    go_ret
    exact E.out
  have h0' : ((b.size : Int) == 0) = false := beq_eq_false_iff_ne.2 (by omega)
  by_cases h64 : 64 < b.size
  · have E := Lib.hid (BAD.out (fun h => by have := h.2.1; omega) w (Below.refl _ _))
    clear BAD GOOD
    go_enter Try.func28, Try.ntmps28
    go_wp2_with fail
    go_ret
    exact E.out
  have hbk := bAt_eq b h0
  have hx8 : bAt b 0 < 256 := by rw [← hbk]; exact UInt8.toNat_lt _
  cases hd : digit (bAt b 0) with
  | true =>
    have E := Lib.hid (BAD.out (fun h => by
      have h1 := h.2.2.2 0 h0
      unfold charOk at h1
      rw [hd] at h1
      simp [letter] at h1
      simp [digit] at hd
      omega) w (Below.refl _ _))
    have D0 := Lib.hid (DC.out (bAt b 0) hx8 w)
    rw [hd] at D0
    clear BAD GOOD hd DC
    generalize bAt b 0 = x at *
    go_enter Try.func28, Try.ntmps28
    go_wp2_with (first | (go_at_call 42; refine D0.out.mono ?_; rintro e w1 ⟨rfl, rfl⟩))
    go_ret
    exact E.out
  | false =>
    have D0 := Lib.hid (DC.out (bAt b 0) hx8 w)
    rw [hd] at D0
    cases hw : isWordB b with
    | true =>
      have E := Lib.hid (fun w' (hb : Below w.heap.size w w') => BAD.out (fun h => by have := h.2.2.1; rw [hw] at this; cases this) w' hb)
      rw [hw] at WC
      clear BAD GOOD hd DC hw
      generalize bAt b 0 = x at *
      go_enter Try.func28, Try.ntmps28
      go_wp2_with (first | (go_at_call 42; refine D0.out.mono ?_; rintro e w1 ⟨rfl, rfl⟩) | (go_at_call 43; refine WC.out.mono ?_; rintro e w2 ⟨rfl, hb2⟩; have HB2 := Lib.hid hb2; clear hb2))
      go_ret
      exact E.out _ HB2.out
    | false =>
      rw [hw] at WC
      have HW := Lib.hid hw
      have HD := Lib.hid hd
      clear hd hw
      generalize hx0 : bAt b 0 = x at *
      have HX0 := Lib.hid hx0
      clear hx0
      go_enter Try.func28, Try.ntmps28
      go_wp2_with (first | (go_at_call 42; refine D0.out.mono ?_; rintro e w1 ⟨rfl, rfl⟩) | (go_at_call 43; refine WC.out.mono ?_; rintro e w2 ⟨rfl, hb2⟩; have HB2 := Lib.hid hb2; clear hb2))
      clear hbk
      go_loop [3] (fun i => ∃ k : Nat, k ≤ b.size ∧ i = .int .i64 (k : Int) ∧ Hid (∀ j, j < k → charOk j (bAt b j) = true)) (fun i => b.size - (intOf i).toNat)
      case atStart => exact ⟨0, by omega, rfl, fun j hj => absurd hj (Nat.not_lt_zero _)⟩
      case round =>
        obtain ⟨k, hk, rfl, HK⟩ := hrel
        by_cases hlt : k < b.size
        · have hbk := bAt_eq b hlt
          have hy8 : bAt b k < 256 := by rw [← hbk]; exact UInt8.toNat_lt _
          have L1 := Lib.hid (LC.out (bAt b k) hy8 w2)
          have D1 := Lib.hid (DC.out (bAt b k) hy8 w2)
          cases hc : charOk k (bAt b k) with
          | true =>
            have HN : Hid (∀ j, j < k + 1 → charOk j (bAt b j) = true) := fun j hj => by
              by_cases he : j = k
              · rw [he]; exact hc
              · exact HK.out j (by omega)
            cases hl : letter (bAt b k) with
            | true =>
              rw [hl] at L1
              clear HK BAD GOOD hc hl D0 DC LC D1
              generalize bAt b k = y at *
              go_wp2_with (first | (go_at_call 44; refine L1.out.mono ?_; rintro e w4 ⟨rfl, rfl⟩))
              go_round
              case rel => exact ⟨k + 1, by omega, by go_num, HN⟩
              case measure => first | (simp [intOf]; done) | (simp [intOf]; omega)
            | false =>
              have hd2 : digit (bAt b k) = true := by unfold charOk at hc; rw [hl] at hc; simp at hc; exact hc.1
              rw [hl] at L1
              rw [hd2] at D1
              clear HK BAD GOOD hc hl D0 DC LC hd2
              generalize bAt b k = y at *
              go_wp2_with (first | (go_at_call 44; refine L1.out.mono ?_; rintro e w4 ⟨rfl, hw4⟩; subst w4) | (go_at_call 42; refine D1.out.mono ?_; rintro e w5 ⟨rfl, hw5⟩; subst w5))
              go_round
              case rel => exact ⟨k + 1, by omega, by go_num, HN⟩
              case measure => first | (simp [intOf]; done) | (simp [intOf]; omega)
          | false =>
            have E := Lib.hid (BAD.out (fun h => by have := h.2.2.2 k hlt; rw [hc] at this; cases this) w2 HB2.out)
            have hl : letter (bAt b k) = false := by
              cases h : letter (bAt b k) with
              | false => rfl
              | true => unfold charOk at hc; rw [h] at hc; simp at hc
            have hd2 : digit (bAt b k) = false := by
              cases h : digit (bAt b k) with
              | false => rfl
              | true =>
                unfold charOk at hc
                rw [hl, h] at hc
                have hk0 : k = 0 := by simp at hc; exact hc
                subst hk0
                rw [HX0.out, HD.out] at h; cases h
            rw [hl] at L1
            rw [hd2] at D1
            clear HK BAD GOOD hc hl D0 DC LC hd2
            generalize bAt b k = y at *
            go_wp2_with (first | (go_at_call 44; refine L1.out.mono ?_; rintro e w4 ⟨rfl, hw4⟩; subst w4) | (go_at_call 42; refine D1.out.mono ?_; rintro e w5 ⟨rfl, hw5⟩; subst w5))
            go_ret
            exact E.out
        · have E := Lib.hid (GOOD.out ⟨h0, by omega, HW.out, fun j hj => HK.out j (by omega)⟩ w2 HB2.out)
          clear HK BAD GOOD D0 DC LC
          go_wp2_with fail
          go_ret
          exact E.out
end Go.Proofs.Ytkjfbojmkkdgoaa
