/- The walks of package heap's calls: each does what the model says, and turns nothing but the heap's own blocks. -/
import Derived.Test.YtkjfbojmkkdgoaaProg
import Derived.Test.YtkjfbojmkkdgoaaH1
import Derived.WalkKit
import Derived.KernelRfl
import Derived.Lib.Hide
import Derived.Deep.DeepMust
set_option linter.unusedVariables false
set_option linter.unusedSimpArgs false
namespace Go.Proofs.Ytkjfbojmkkdgoaa
open Go.RowKit
theorem zero3 (w : World) : (zeroValue 3).run Try.prog w = .ok (.int .i64 0) w := by kernel_rfl
/-- A heap stands at block g, its blocks among F, its maps of at most c entries each. -/
def HeapAt (w : World) (F : Nat → Prop) (g c : Nat) (q : QH) : Prop :=
  ∃ s t, Blk w g 108 #[.map (some s), .map (some t), .int .i64 q.tk] ∧ IMap Try.prog 3 w s c q.sz ∧ IMap Try.prog 3 w t c q.wd ∧ s ≠ t ∧ F g ∧ F s ∧ F t
section
variable {w w' : World} {F G : Nat → Prop} {g c : Nat} {q : QH}
theorem HeapAt.mono (h : HeapAt w F g c q) {c' : Nat} (hc : c ≤ c') : HeapAt w F g c' q := by
  obtain ⟨s, t, h1, h2, h3, h4⟩ := h
  exact ⟨s, t, h1, h2.mono hc, h3.mono hc, h4⟩
theorem HeapAt.more (h : HeapAt w F g c q) (hG : ∀ b, b < w.heap.size → F b → G b) : HeapAt w G g c q := by
  obtain ⟨s, t, h1, h2, h3, h4, h5, h6, h7⟩ := h
  exact ⟨s, t, h1, h2, h3, h4, hG g h1.lt h5, hG s h2.lt h6, hG t h3.lt h7⟩
theorem HeapAt.only (h : HeapAt w F g c q) (ho : Only G w w') (hd : ∀ b, b < w.heap.size → F b → ¬ G b) : HeapAt w' F g c q := by
  obtain ⟨s, t, h1, h2, h3, h4, h5, h6, h7⟩ := h
  exact ⟨s, t, h1.only ho (hd g h1.lt h5), h2.only ho (hd s h2.lt h6), h3.only ho (hd t h3.lt h7), h4, h5, h6, h7⟩
end
theorem hnew_c (w : World) : Calls Try.prog 35 #[] w fun e w' => e = .returned (.pointer (some ⟨w.heap.size + 2, 0, none⟩)) ∧ HeapAt w' (fun b => w.heap.size ≤ b) (w.heap.size + 2) 0 QH.empty ∧ Below w.heap.size w w' := by
  have hmm := @run_makeMap Try.prog
  go_enter Try.func35, Try.ntmps35
  go_wp2
  go_ret
  have b1 : IMap Try.prog 3 (w.alloc (.map #[] 0)) w.heap.size 0 (fun _ => none) := IMap.made _ _ _
  have b2 : IMap Try.prog 3 ((w.alloc (.map #[] 0)).alloc (.map #[] 0)) (w.heap.size + 1) 0 (fun _ => none) := by
    have := IMap.made Try.prog 3 (w.alloc (.map #[] 0))
    simpa using this
  refine ⟨by simp, ?_, ?_⟩
  · refine ⟨w.heap.size, w.heap.size + 1, ?_, (b1.alloc _).alloc _, b2.alloc _, by omega, by show w.heap.size ≤ w.heap.size + 2; omega, Nat.le_refl _, by show w.heap.size ≤ w.heap.size + 1; omega⟩
    have := Blk.new ((w.alloc (.map #[] 0)).alloc (.map #[] 0)) 108 #[.map (some w.heap.size), .map (some (w.heap.size + 1)), .int .i64 0]
    simpa [QH.empty, Nat.add_assoc] using this
  · exact (((Below.refl _ _).alloc (Nat.le_refl _) _).alloc (by simp) _).alloc (by simp; omega) _
theorem make_no (w : World) (F : Nat → Prop) (g c : Nat) (q : QH) (n : Int) (h : HeapAt w F g c q) (hq : q.Ok) (hn : i64in n) (hf : fitsB q.tk n = false) :
    Calls Try.prog 103 #[.pointer (some ⟨g, 0, none⟩), .int .i64 n] w fun e w' => e = .returned (.tuple #[.int .i64 0, .bool false]) ∧ w = w' := by
  obtain ⟨s, t, h1, h2, h3, h4, h5⟩ := h
  obtain ⟨q1, q2, q3⟩ := hq
  have c2 := h1.cell 2
  simp at c2
  have hf' : ¬ (0 ≤ n ∧ n < 4611686018427387904 - q.tk) := by rw [← fitsB_iff, hf]; simp
  obtain ⟨n0, n1⟩ := hn
  clear h1 h2 h3 h4 h5 q3 hf
  generalize q.tk = tk at *
  by_cases h0 : n < 0
  · clear hf'
    go_enter Try.func103, Try.ntmps103
    go_wp2
    go_ret2
    exact ⟨rfl, rfl⟩
  · have h1 : 4611686018427387904 - tk ≤ n := by omega
    clear hf'
    go_enter Try.func103, Try.ntmps103
    go_wp2
    go_ret2
    exact ⟨rfl, rfl⟩
theorem make_yes (w : World) (F : Nat → Prop) (g c : Nat) (q : QH) (n : Int) (h : HeapAt w F g c q) (hq : q.Ok) (hc : c < 9000000000000) (hf : fitsB q.tk n = true) :
    Calls Try.prog 103 #[.pointer (some ⟨g, 0, none⟩), .int .i64 n] w fun e w' => e = .returned (.tuple #[.int .i64 (q.tk + 1), .bool true]) ∧ HeapAt w' F g (c + 1) (q.make n) ∧ Only F w w' := by
  obtain ⟨s, t, h1, h2, h3, h4, h5, h6, h7⟩ := h
  obtain ⟨q1, q2, q3⟩ := hq
  have hmk : q.make n = ⟨upd q.sz (q.tk + 1) n, q.wd, q.tk + n + 1⟩ := by rw [QH.make, if_pos hf]
  rw [fitsB_iff] at hf
  obtain ⟨n0, n1⟩ := hf
  rw [hmk]
  clear hmk q3
  obtain ⟨sz, wd, tk⟩ := q
  simp only at *
  have c0 : w.cell? ⟨g, 0, none⟩ = some (.map (some s)) := by rw [h1.cell 0]; rfl
  have c2 : w.cell? ⟨g, 2, none⟩ = some (.int .i64 tk) := by rw [h1.cell 2]; rfl
  have sg : s ≠ g := h2.ne_blk h1
  have tg : t ≠ g := h3.ne_blk h1
  have H1 := Lib.hid h1
  have H2 := Lib.hid h2
  have H3 := Lib.hid h3
  clear h1 h2 h3
  go_enter Try.func103, Try.ntmps103
  go_wp2_with (at_mapUpdate; go_must (refine wpList_put rfl (.tmp 26) (.tmp 27) (.tmp 28) 83 rfl Try.underlying83 Try.underlying3 H2.out rfl (by unfold maxLen; omega) _ _ rfl rfl ⟨by omega, by omega⟩ ⟨by omega, by omega⟩ ?_); go_must (intro w1 m1 g1; have B1 := Lib.hid (H1.out.grown g1 (fun e => sg (by injection e with e; exact e.symm))); have M1 := Lib.hid m1; have T1 := Lib.hid (H3.out.grown g1 (fun e => h4 (by injection e with e; exact e.symm))); have G1 := Lib.hid g1; clear m1 g1; have c2' : w1.cell? ⟨g, 2, none⟩ = some (.int .i64 tk) := (B1.out.cell 2).trans rfl; have f2 := B1.out.frozen 2; clear c0 c2))
  go_ret2
  refine ⟨by simp, ⟨s, t, ?_, M1.out.far (by exact sg) _, (T1.out.mono (by omega)).far (by exact tg) _, h4, h5, h6, h7⟩, ?_⟩
  · have := B1.out.set_ 2 (.int .i64 (tk + (n + 1)))
    simpa [Int.add_assoc] using this
  · exact ((Only.refl F w).grown G1.out (fun k hk => .inl (by injection hk with hk; subst hk; exact h6))).setCell (.inl (by exact h5)) _
theorem hmake_c (w : World) (F : Nat → Prop) (g c : Nat) (q : QH) (n : Int) (h : HeapAt w F g c q) (hq : q.Ok) (hc : c < 9000000000000) (hn : i64in n) :
    Calls Try.prog 103 #[.pointer (some ⟨g, 0, none⟩), .int .i64 n] w fun e w' => e = .returned (.tuple #[.int .i64 (makeA q.tk n), .bool (fitsB q.tk n)]) ∧ HeapAt w' F g (c + 1) (q.make n) ∧ Only F w w' := by
  cases hf : fitsB q.tk n with
  | false =>
    refine (make_no w F g c q n h hq hn hf).mono fun e w' he => ?_
    obtain ⟨rfl, rfl⟩ := he
    have e1 : makeA q.tk n = 0 := by rw [makeA, hf]; rfl
    have e2 : q.make n = q := by rw [QH.make, hf]; rfl
    rw [e1, e2]
    exact ⟨rfl, h.mono (by omega), Only.refl _ _⟩
  | true =>
    have e1 : makeA q.tk n = q.tk + 1 := by rw [makeA, hf]; rfl
    rw [e1]
    exact make_yes w F g c q n h hq hc hf
theorem hlen_c (w : World) (F : Nat → Prop) (g c : Nat) (q : QH) (a : Int) (h : HeapAt w F g c q) (ha : i64in a) :
    Calls Try.prog 104 #[.pointer (some ⟨g, 0, none⟩), .int .i64 a] w fun e w' => e = .returned (.tuple #[.int .i64 (q.lenA a), .bool (q.lenB a)]) ∧ w = w' := by
  obtain ⟨s, t, h1, h2, h3, h4, h5⟩ := h
  have c0 : w.cell? ⟨g, 0, none⟩ = some (.map (some s)) := (h1.cell 0).trans rfl
  have hl := h2.look_ok Try.underlying83 Try.underlying3 (zero3 w) ha
  by_cases h0 : a = 0
  · have E := Lib.hid (show q.lenA a = 0 ∧ q.lenB a = true from ⟨by rw [QH.lenA, if_pos h0], by rw [QH.lenB, if_pos h0]⟩)
    clear h1 h2 h3 h4 h5 hl
    subst h0
    go_enter Try.func104, Try.ntmps104
    go_wp2
    go_ret2
    exact ⟨by rw [E.out.1, E.out.2]; rfl, rfl⟩
  · have E := Lib.hid (show q.lenA a = (q.sz a).getD 0 ∧ q.lenB a = (q.sz a).isSome from ⟨by rw [QH.lenA, if_neg h0], by rw [QH.lenB, if_neg h0]⟩)
    have h0' : (a == 0) = false := beq_eq_false_iff_ne.2 h0
    clear h1 h2 h3 h4 h5
    generalize (q.sz a).getD 0 = x at *
    generalize (q.sz a).isSome = y at *
    go_enter Try.func104, Try.ntmps104
    go_wp2
    go_ret2
    exact ⟨by rw [E.out.1, E.out.2]; rfl, rfl⟩
theorem hhas_c (w : World) (F : Nat → Prop) (g c : Nat) (q : QH) (a i : Int) (h : HeapAt w F g c q) (ha : i64in a) :
    Calls Try.prog 108 #[.pointer (some ⟨g, 0, none⟩), .int .i64 a, .int .i64 i] w fun e w' => e = .returned (.bool (q.has a i)) ∧ w = w' := by
  obtain ⟨s, t, h1, h2, h3, h4, h5⟩ := h
  have c0 : w.cell? ⟨g, 0, none⟩ = some (.map (some s)) := (h1.cell 0).trans rfl
  have hl := h2.look_ok Try.underlying83 Try.underlying3 (zero3 w) ha
  clear h1 h2 h3 h4 h5
  cases hs : q.sz a with
  | none =>
    have E := Lib.hid (show q.has a i = false by rw [QH.has, hs])
    rw [hs] at hl
    simp only [Option.getD_none, Option.isSome_none] at hl
    clear hs
    go_enter Try.func108, Try.ntmps108
    go_wp2
    go_ret
    exact ⟨by rw [E.out]; rfl, rfl⟩
  | some n =>
    have E := Lib.hid (show q.has a i = decide (0 ≤ i ∧ i < n) by rw [QH.has, hs])
    rw [hs] at hl
    simp only [Option.getD_some, Option.isSome_some] at hl
    clear hs
    by_cases h0 : 0 ≤ i
    · by_cases h1 : i < n
      · have E2 := Lib.hid (E.out.trans (decide_eq_true ⟨h0, h1⟩))
        go_enter Try.func108, Try.ntmps108
        go_wp2
        go_ret
        exact ⟨by rw [E2.out]; simp [h1], rfl⟩
      · have E2 := Lib.hid (E.out.trans (decide_eq_false (fun h => h1 h.2)))
        go_enter Try.func108, Try.ntmps108
        go_wp2
        go_ret
        exact ⟨by rw [E2.out]; first | (simp; done) | (simp; omega), rfl⟩
    · have E2 := Lib.hid (E.out.trans (decide_eq_false (fun h => h0 h.1)))
      go_enter Try.func108, Try.ntmps108
      go_wp2
      go_ret
      exact ⟨by rw [E2.out]; rfl, rfl⟩
theorem hget_c (w : World) (F : Nat → Prop) (g c : Nat) (q : QH) (a i : Int) (h : HeapAt w F g c q) (hq : q.Ok) (ha : i64in a) :
    Calls Try.prog 106 #[.pointer (some ⟨g, 0, none⟩), .int .i64 a, .int .i64 i] w fun e w' => e = .returned (.tuple #[.int .i64 (q.getA a i), .bool (q.has a i)]) ∧ w = w' := by
  have HC := Lib.hid (hhas_c w F g c q a i h ha)
  obtain ⟨s, t, h1, h2, h3, h4, h5⟩ := h
  cases hb : q.has a i with
  | false =>
    rw [hb] at HC
    have E := Lib.hid (show q.getA a i = 0 by rw [QH.getA, hb]; rfl)
    clear h1 h2 h3 h4 h5 hb
    go_enter Try.func106, Try.ntmps106
    go_wp2_with (go_at_call 108; refine HC.out.mono ?_; rintro e w' ⟨rfl, rfl⟩)
    go_ret2
    exact ⟨by rw [E.out]; rfl, rfl⟩
  | true =>
    rw [hb] at HC
    have E := Lib.hid (show q.getA a i = (q.wd (a + 1 + i)).getD 0 by rw [QH.getA, hb]; rfl)
    obtain ⟨k1, k2, k3⟩ := hq.at_ hb
    have c1 : w.cell? ⟨g, 1, none⟩ = some (.map (some t)) := (h1.cell 1).trans rfl
    have hl := h3.look Try.underlying83 Try.underlying3 (zero3 w) (show i64in (a + 1 + i) from ⟨by omega, by omega⟩)
    clear h1 h2 h3 h4 h5 hb
    go_enter Try.func106, Try.ntmps106
    go_wp2_with (go_at_call 108; refine HC.out.mono ?_; rintro e w' ⟨rfl, rfl⟩)
    go_ret2
    exact ⟨by rw [E.out]; rfl, rfl⟩
theorem hset_c (w : World) (F : Nat → Prop) (g c : Nat) (q : QH) (a i v : Int) (h : HeapAt w F g c q) (hq : q.Ok) (ha : i64in a) (hv : i64in v) (hc : c < 9000000000000) :
    Calls Try.prog 107 #[.pointer (some ⟨g, 0, none⟩), .int .i64 a, .int .i64 i, .int .i64 v] w fun e w' => e = .returned (.bool (q.has a i)) ∧ HeapAt w' F g (c + 1) (q.set a i v) ∧ Only F w w' := by
  have HC := Lib.hid (hhas_c w F g c q a i h ha)
  cases hb : q.has a i with
  | false =>
    rw [hb] at HC
    have E := Lib.hid (show HeapAt w F g (c + 1) (q.set a i v) by rw [QH.set, hb]; exact h.mono (by omega))
    clear h hb
    go_enter Try.func107, Try.ntmps107
    go_wp2_with (go_at_call 108; refine HC.out.mono ?_; rintro e w' ⟨rfl, rfl⟩)
    go_ret
    exact ⟨rfl, E.out, Only.refl _ _⟩
  | true =>
    obtain ⟨s, t, h1, h2, h3, h4, h5, h6, h7⟩ := h
    rw [hb] at HC
    have E := Lib.hid (show q.set a i v = ⟨q.sz, upd q.wd (a + 1 + i) v, q.tk⟩ by rw [QH.set, hb]; rfl)
    obtain ⟨k1, k2, k3⟩ := hq.at_ hb
    have c1 : w.cell? ⟨g, 1, none⟩ = some (.map (some t)) := (h1.cell 1).trans rfl
    have tg : t ≠ g := h3.ne_blk h1
    have H1 := Lib.hid h1
    have H2 := Lib.hid h2
    have H3 := Lib.hid h3
    clear h1 h2 h3 hb
    go_enter Try.func107, Try.ntmps107
    go_wp2_with (first | (go_at_call 108; refine HC.out.mono ?_; rintro e w' ⟨rfl, rfl⟩) | (at_mapUpdate; go_must (refine wpList_put rfl (.tmp 17) (.tmp 21) (.tmp 22) 83 rfl Try.underlying83 Try.underlying3 H3.out rfl (by unfold maxLen; omega) _ _ rfl rfl ⟨by omega, by omega⟩ hv ?_); go_must (intro w1 m1 g1; have M1 := Lib.hid m1; have G1 := Lib.hid g1; clear m1 g1 c1)))
    go_ret
    refine ⟨rfl, ?_, ?_⟩
    · rw [E.out]
      exact ⟨s, t, H1.out.grown G1.out (fun e => tg (by injection e with e; exact e.symm)), (H2.out.mono (by omega)).grown G1.out (fun e => h4 (by injection e)), M1.out, h4, h5, h6, h7⟩
    · exact (Only.refl F w).grown G1.out (fun k hk => .inl (by injection hk with hk; subst hk; exact h7))
theorem hwords_c (w : World) (F : Nat → Prop) (g c : Nat) (q : QH) (h : HeapAt w F g c q) :
    Calls Try.prog 40 #[.pointer (some ⟨g, 0, none⟩)] w fun e w' => e = .returned (.int .i64 q.tk) ∧ w = w' := by
  obtain ⟨s, t, h1, h2, h3, h4, h5⟩ := h
  have c2 : w.cell? ⟨g, 2, none⟩ = some (.int .i64 q.tk) := (h1.cell 2).trans rfl
  clear h1 h2 h3 h4 h5
  go_enter Try.func40, Try.ntmps40
  go_wp2
  go_ret
  exact ⟨rfl, rfl⟩
end Go.Proofs.Ytkjfbojmkkdgoaa
