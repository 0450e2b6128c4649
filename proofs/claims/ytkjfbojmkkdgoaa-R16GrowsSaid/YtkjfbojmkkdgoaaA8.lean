/- a map by names; r16's Check. -/
import Derived.Test.YtkjfbojmkkdgoaaA7
import Derived.StringKeys
set_option linter.unusedVariables false
set_option linter.unusedSimpArgs false
namespace Go.Proofs.Ytkjfbojmkkdgoaa
open Go.RowKit
attribute [local go_sem ↓] Go.wp_at_zero Go.wp_at_succ
/-- A map from strings to whole numbers: which keys it has. -/
def SMap (P : Program) (K E : TypeId) (w : World) (b n : Nat) (f : List UInt8 → Bool) : Prop :=
  ∃ D : DataW Unit, w.ownsMap P K (plainElem P E) b n D ∧ ∀ l, Maps.has D (.string l) = f l
section
variable {P : Program} {K E T : TypeId} {w w' : World} {b n : Nat} {f : List UInt8 → Bool}
theorem SMap.made (P : Program) (K E : TypeId) (w : World) : SMap P K E (w.alloc (.map #[] 0)) w.heap.size 0 (fun _ => false) :=
  ⟨.map [], World.ownsMap_made w P K _, fun l => rfl⟩
theorem SMap.lt (h : SMap P K E w b n f) : b < w.heap.size := let ⟨_, h1, _⟩ := h; h1.lt
theorem SMap.mono (h : SMap P K E w b n f) {n' : Nat} (hn : n ≤ n') : SMap P K E w b n' f := let ⟨D, h1, h2⟩ := h; ⟨D, h1.mono hn, h2⟩
theorem SMap.alloc (h : SMap P K E w b n f) (o : Obj) : SMap P K E (w.alloc o) b n f := let ⟨D, h1, h2⟩ := h; ⟨D, h1.alloc o, h2⟩
theorem SMap.below (h : SMap P K E w b n f) (hb : Below w.heap.size w w') : SMap P K E w' b n f := by
  have hlt := h.lt
  obtain ⟨D, ⟨es, clock, hb', F1, hs, hD⟩, h2⟩ := h
  exact ⟨D, ⟨es, clock, (hb.block b hlt).trans hb', F1, hs, hD⟩, h2⟩
theorem SMap.congr {f' : List UInt8 → Bool} (h : SMap P K E w b n f) (he : ∀ l, f l = f' l) : SMap P K E w b n f' := let ⟨D, h1, h2⟩ := h; ⟨D, h1, fun l => by rw [← he l]; exact h2 l⟩
theorem SMap.look_ok (h : SMap P K E w b n f) (hT : P.underlying T = some (.map K E)) (hK : P.underlying K = some .string) (hE : P.underlying E = some (.int .i64)) (hz : (zeroValue E).run P w = .ok (.int .i64 0) w) {s : ByteArray} (hs : s.size ≤ maxLen) :
    ∃ c : Int, (Instr.lookup T (.map (some b)) (.string s) true).run P w = .ok (.tuple #[.int .i64 c, .bool (f s.data.toList)]) w := by
  obtain ⟨D, h1, h2⟩ := h
  obtain ⟨v, ps, hrun, hv⟩ := h1.look_ok (t := T) (Maps.string_keyed hK) hT hz (plainElem_int hE (by decide)) (WideMaps.keyOf_string_mk hK hs)
  obtain ⟨c, rfl, hc, _⟩ := plainElem_int_inv hE hv
  rw [h2] at hrun
  exact ⟨c, hrun⟩
theorem wpList_sput {ops : Array Oper} {rest : List Oper} {o : Oper} {a : Act} {Q : Exit → Act → World → Prop}
    (hg : o.guard = none) (m x v : Operand) (T : TypeId) (hop : o.op = Op.mapUpdate T m x v) (hT : P.underlying T = some (.map K E)) (hK : P.underlying K = some .string) (hE : P.underlying E = some (.int .i64))
    (h : SMap P K E w b n f) (hm : a.eval m = .map (some b)) (hn : n < maxLen) (s : ByteArray) (y : Int) (hx : a.eval x = .string s) (hv : a.eval v = .int .i64 y) (hs : s.size ≤ maxLen) (hy : i64in y)
    (hW : ∀ w', SMap P K E w' b (n + 1) (fun l => if l = s.data.toList then true else f l) → w.grownBy w' (some b) → wpList P ops Q rest (a.put o.dst undef) w') : wpList P ops Q (o :: rest) a w := by
  obtain ⟨D, h1, h2⟩ := h
  refine wpList_mapUpdate_own w hg m x v T hop K E (Maps.string_keyed hK) hT (plainElem P E) b n D hm h1 hn _ _ _ hx hv (WideMaps.keyOf_string_mk hK hs) _ [] (plainElem_int hE (wf_of hy)) ?_
  intro w1 hown hgrow
  have hM : Maps.IsMap D := h1.isMap
  refine hW w1 ⟨_, hown, fun l => ?_⟩ hgrow
  by_cases he : l = s.data.toList
  · subst he
    refine Eq.trans ?_ (if_pos rfl).symm
    exact Maps.has_put_same hM (by trivial) _
  · refine Eq.trans ?_ (if_neg he).symm
    rw [Maps.has_put_other (fun e => he (by injection e)), h2]
end
def firstOf (Fs : Nat → Fn) : Nat → Int
  | 0 => 0
  | k + 1 => firstOf Fs k + (Fs k).count
/-- One function of code, the k-th: all that is asked of it. -/
def OneOk (ni : Nat) (X : Nat → Ins) (nf : Nat) (Fs : Nat → Fn) (k : Nat) : Prop :=
  (Fs k).first = firstOf Fs k ∧ 1 ≤ (Fs k).count ∧ (Fs k).count ≤ (ni : Int) - firstOf Fs k ∧ (∀ j, j < k → (Fs j).name ≠ (Fs k).name) ∧ FnOk nf X (Fs k) (firstOf Fs k).toNat (Fs k).count.toNat
def CodeOk (ni : Nat) (X : Nat → Ins) (nf : Nat) (Fs : Nat → Fn) (m : Int) : Prop :=
  (∀ k, k < nf → OneOk ni X nf Fs k) ∧ firstOf Fs nf = (ni : Int) ∧ 0 ≤ m ∧ m < (nf : Int) ∧ (Fs m.toNat).params = 0
theorem name_eq {a b : ByteArray} : a = b ↔ a.data.toList = b.data.toList := by
  constructor
  · rintro rfl; rfl
  · intro h
    cases a; cases b
    congr 1
    exact Array.toList_inj.1 h
def hasName (Fs : Nat → Fn) (k : Nat) (l : List UInt8) : Bool := (List.range k).any fun j => decide ((Fs j).name.data.toList = l)
theorem hasName_iff (Fs : Nat → Fn) (k : Nat) (s : ByteArray) : hasName Fs k s.data.toList = true ↔ ∃ j, j < k ∧ (Fs j).name = s := by
  unfold hasName
  rw [List.any_eq_true]
  constructor
  · rintro ⟨j, hj, he⟩
    exact ⟨j, List.mem_range.1 hj, name_eq.2 (of_decide_eq_true he)⟩
  · rintro ⟨j, hj, he⟩
    exact ⟨j, List.mem_range.2 hj, decide_eq_true (name_eq.1 he)⟩
theorem hasName_succ (Fs : Nat → Fn) (k : Nat) (l : List UInt8) : (if l = (Fs k).name.data.toList then true else hasName Fs k l) = hasName Fs (k + 1) l := by
  unfold hasName
  rw [List.range_succ, List.any_append]
  by_cases h : l = (Fs k).name.data.toList
  · rw [if_pos h]; simp [h]
  · rw [if_neg h]; simp [show ¬ (Fs k).name.data.toList = l from fun e => h e.symm]
theorem FL.only {w w' : World} {G F : Nat → Prop} {A : Option Addr} {n : Nat} {X : Nat → Fn} (h : FL w G A n X) (o : Only F w w') (hd : ∀ b, b < w.heap.size → G b → ¬ F b) : FL w' G A n X :=
  ⟨h.1, fun i hi => let ⟨h1, hs, b, off, h2, h3, h4, c0, c1, c2, c3, c4⟩ := h.2 i hi
    have k := fun (j : Nat) => o.cell (o := j) h4 (hd b h4 h3)
    ⟨h1, hs, b, off, h2, h3, Nat.lt_of_lt_of_le h4 o.size, (k _).trans c0, (k _).trans c1, (k _).trans c2, (k _).trans c3, (k _).trans c4⟩⟩
/-- What stands through Check. -/
structure CS (w wr : World) (G : Nat → Prop) (A : Option Addr) (ni : Nat) (X : Nat → Ins) (B : Option Addr) (nf : Nat) (Fs : Nat → Fn) (cc : Array Value) (k : Nat) : Prop where
  b1 : Blk wr w.heap.size 25 cc
  mp : SMap Try.prog 9 3 wr (w.heap.size + 1) k (hasName Fs k)
  il : IL wr G A ni X
  fl : FL wr G B nf Fs
  below : Below w.heap.size w wr
section
variable {w wr w2 : World} {G : Nat → Prop} {A B : Option Addr} {ni nf k : Nat} {X : Nat → Ins} {Fs : Nat → Fn} {cc : Array Value}
theorem CS.later (h : CS w wr G A ni X B nf Fs cc k) (hb : Below wr.heap.size wr w2) : CS w w2 G A ni X B nf Fs cc k :=
  ⟨h.b1.below hb h.b1.lt, h.mp.below hb, h.il.only (Only.ofBelow (F := fun _ => False) hb) (fun _ _ _ h => h), h.fl.only (Only.ofBelow (F := fun _ => False) hb) (fun _ _ _ h => h), h.below.trans (hb.mono h.below.size)⟩
theorem CS.start (hi : IL w G A ni X) (hf : FL w G B nf Fs) (cc : Array Value) : CS w ((w.alloc (.cells cc 25)).alloc (.map #[] 0)) G A ni X B nf Fs cc 0 := by
  have z : (w.alloc (.cells cc 25)).heap.size = w.heap.size + 1 := by simp
  have m := SMap.made Try.prog 9 3 (w.alloc (.cells cc 25))
  rw [z] at m
  exact ⟨(Blk.new w 25 cc).alloc _, m.congr (fun l => rfl), (hi.only ((Only.refl (fun _ => False) w).alloc _) (fun _ _ _ h => h)).only ((Only.refl (fun _ => False) _).alloc _) (fun _ _ _ h => h), (hf.only ((Only.refl (fun _ => False) w).alloc _) (fun _ _ _ h => h)).only ((Only.refl (fun _ => False) _).alloc _) (fun _ _ _ h => h), ba (ba (Below.refl _ _) _) _⟩
theorem CS.put (hG : ∀ b, G b → b < w.heap.size) (h : CS w wr G A ni X B nf Fs cc k) (hm : SMap Try.prog 9 3 w2 (w.heap.size + 1) (k + 1) (fun l => if l = (Fs k).name.data.toList then true else hasName Fs k l)) (hg : wr.grownBy w2 (some (w.heap.size + 1))) : CS w w2 G A ni X B nf Fs cc (k + 1) := by
  have o : Only (fun b => b = w.heap.size + 1) wr w2 := (Only.refl _ _).grown hg fun j hj => .inl (by injection hj with hj; exact hj.symm)
  exact ⟨h.b1.only o (by omega), hm.congr (hasName_succ Fs k), h.il.only o (fun b _ hb e => by have := hG b hb; omega), h.fl.only o (fun b _ hb e => by have := hG b hb; omega), h.below.trans (o.toBelow h.below.size fun j hj e => by omega)⟩
end
def CheckPost (ni : Nat) (X : Nat → Ins) (nf : Nat) (Fs : Nat → Fn) (m : Int) (w : World) (e : Ending) (w' : World) : Prop := ∃ r : Int, e = .returned (.int .i64 r) ∧ ((r = 0 ∧ CodeOk ni X nf Fs m) ∨ (r = 210 ∧ ¬ CodeOk ni X nf Fs m)) ∧ Below w.heap.size w w'
set_option maxRecDepth 100000 in
set_option maxHeartbeats 16000000 in
theorem check_c (w : World) (G : Nat → Prop) (hG : ∀ b, G b → b < w.heap.size) (A : Option Addr) (ni ci : Nat) (X : Nat → Ins) (B : Option Addr) (nf cf : Nat) (Fs : Nat → Fn) (m : Int) (hi : IL w G A ni X) (hci : ni ≤ ci) (hf : FL w G B nf Fs) (hm : i64in m) (hnf : nf ≤ 1000000) :
    Calls Try.prog 15 #[codeV A ni ci B nf cf m] w (CheckPost ni X nf Fs m w) := by
  have BAD := Lib.hid (fun (hn : ¬ CodeOk ni X nf Fs m) (w' : World) (hw : Below w.heap.size w w') => show CheckPost ni X nf Fs m w (.returned (.int .i64 210)) w' from ⟨210, rfl, .inr ⟨rfl, hn⟩, hw⟩)
  have GOOD := Lib.hid (fun (hr : CodeOk ni X nf Fs m) (w' : World) (hw : Below w.heap.size w w') => show CheckPost ni X nf Fs m w (.returned (.int .i64 0)) w' from ⟨0, rfl, .inl ⟨rfl, hr⟩, hw⟩)
  have HG := Lib.hid hG
  have S0 := Lib.hid (CS.start hi hf #[.slice A ni ci, .slice B nf cf, .int .i64 m])
  have hni := hi.1
  obtain ⟨m1, m2⟩ := hm
  clear hi hf hG
  have hmm := @run_makeMap Try.prog
  unfold codeV
  go_enter Try.func15, Try.ntmps15
  go_wp2_with fail
  go_loopw [3, 13] (fun nx kv wx => ∃ k : Nat, k ≤ nf ∧ kv = .int .i64 (k : Int) ∧ nx = .int .i64 (firstOf Fs k) ∧ 0 ≤ firstOf Fs k ∧ firstOf Fs k ≤ (ni : Int) ∧ Hid (CS w wx G A ni X B nf Fs #[.slice A ni ci, .slice B nf cf, .int .i64 m] k) ∧ Hid (∀ j, j < k → OneOk ni X nf Fs j)) (fun _ kv _ => nf - (intOf kv).toNat)
  case atStart => exact ⟨0, by omega, rfl, rfl, by show (0 : Int) ≤ 0; omega, by show (0 : Int) ≤ _; omega, S0, fun j hj => absurd hj (Nat.not_lt_zero _)⟩
  case round =>
    clear S0
    obtain ⟨k, hk, rfl, rfl, hn0, hn1, S, HK⟩ := hrel
    clear hmm
    by_cases hlt : k < nf
    · obtain ⟨hin, hsz, b, off, rfl, _, hbl, k0, k1, k2, k3, k4⟩ := S.out.fl.2 k hlt
      have S2 := Lib.hid (fun cs => S.out.later (ba (Below.refl _ wr) (.cells cs 61)))
      have S3 := Lib.hid (S2.out #[.string (Fs k).name, .int .i64 (Fs k).frame, .int .i64 (Fs k).first, .int .i64 (Fs k).count, .int .i64 (Fs k).params])
      have BADK := Lib.hid (fun (hn : ¬ OneOk ni X nf Fs k) (w' : World) (hw : Below w.heap.size w w') => BAD.out (fun h => hn (h.1 k hlt)) w' hw)
      have HKK := Lib.hid (fun (hy : OneOk ni X nf Fs k) => show ∀ j, j < k + 1 → OneOk ni X nf Fs j from fun j hj => by
        by_cases he : j = k
        · rw [he]; exact hy
        · exact HK.out j (by omega))
      obtain ⟨cv, hlook⟩ := (S.out.mp.alloc (.cells #[.string (Fs k).name, .int .i64 (Fs k).frame, .int .i64 (Fs k).first, .int .i64 (Fs k).count, .int .i64 (Fs k).params] 61)).look_ok Try.underlying71 Try.underlying9 Try.underlying3 (by rfl) hsz
      have cB : wr.cell? ⟨w.heap.size, 0, none⟩ = some (.slice A ni ci) := S.out.b1.cell 0
      obtain ⟨_, hfi, hco, _⟩ := id hin
      obtain ⟨i1, i2⟩ := hfi
      obtain ⟨i3, i4⟩ := hco
      have hlb := S.out.b1.lt
      cases htw : hasName Fs k (Fs k).name.data.toList with
      | true =>
        rw [htw] at hlook
        have E := Lib.hid (BADK.out (fun h => by
          obtain ⟨j, hj, he⟩ := (hasName_iff Fs k (Fs k).name).1 htw
          exact h.2.2.2.1 j hj he) _ S3.out.below)
        clear BAD GOOD BADK HKK HK
        go_wp2_with fail
        go_ret
        exact E.out
      | false =>
        rw [htw] at hlook
        by_cases hf1 : (Fs k).first = firstOf Fs k
        · have hf2 : ((Fs k).first != firstOf Fs k) = false := by simp [hf1]
          rcases (show (Fs k).count < 1 ∨ (1 ≤ (Fs k).count ∧ (ni : Int) - firstOf Fs k < (Fs k).count) ∨ (1 ≤ (Fs k).count ∧ (Fs k).count ≤ (ni : Int) - firstOf Fs k) by omega) with g | ⟨g1, g2⟩ | ⟨g1, g2⟩
          · have E := Lib.hid (BADK.out (fun h => by have := h.2.1; omega) _ S3.out.below)
            clear hf1 BAD GOOD BADK HKK HK
            go_wp2_with fail
            go_ret
            exact E.out
          · have E := Lib.hid (BADK.out (fun h => by have := h.2.2.1; omega) _ S3.out.below)
            clear hf1 BAD GOOD BADK HKK HK
            go_wp2_with fail
            go_ret
            exact E.out
          · have hnn : ∀ j, j < k → (Fs j).name ≠ (Fs k).name := fun j hj he => by
              have := (hasName_iff Fs k (Fs k).name).2 ⟨j, hj, he⟩
              rw [htw] at this; cases this
            have BADF := Lib.hid (fun (hn : ¬ FnOk nf X (Fs k) (firstOf Fs k).toNat (Fs k).count.toNat) (w' : World) (hw : Below w.heap.size w w') => BADK.out (fun h => hn h.2.2.2.2) w' hw)
            have HKF := Lib.hid (fun (hy : FnOk nf X (Fs k) (firstOf Fs k).toNat (Fs k).count.toNat) => HKK.out ⟨hf1, g1, g2, hnn, hy⟩)
            have PUT := Lib.hid (fun (w2 : World) => CS.put (w2 := w2) HG.out S3.out)
            have hne1 : firstOf Fs k + (Fs k).count ≤ (ni : Int) := by omega
            have hne2 : 0 ≤ firstOf Fs k + (Fs k).count := by omega
            have FC := Lib.hid (fun w2 (hh : CS w w2 G A ni X (some ⟨b, off, none⟩) nf Fs #[.slice A ni ci, .slice (some ⟨b, off, none⟩) nf cf, .int .i64 m] (k + 1)) => function_c w2 G A ni ci X (some ⟨b, off, none⟩) nf cf m (Fs k) (firstOf Fs k).toNat (Fs k).count.toNat hh.il hci hin hsz (by omega) (by rw [hf1]; omega) (by omega) (by omega) (by omega))
            clear BAD GOOD BADK HKK HK hnn hlook hf1
            obtain ⟨cv, hlook⟩ := (S.out.mp.alloc (.cells #[.string (Fs k).name, .int .i64 (Fs k).frame, .int .i64 (Fs k).first, .int .i64 (Fs k).count, .int .i64 (Fs k).params] 61)).look_ok Try.underlying71 Try.underlying9 Try.underlying3 (by rfl) hsz
            rw [htw] at hlook
            have hml := S.out.mp.lt
            have PUTB := Lib.hid (fun (w2 : World) (hg : (wr.alloc (.cells #[.string (Fs k).name, .int .i64 (Fs k).frame, .int .i64 (Fs k).first, .int .i64 (Fs k).count, .int .i64 (Fs k).params] 61)).grownBy w2 (some (w.heap.size + 1))) => (Blk.new wr 61 #[.string (Fs k).name, .int .i64 (Fs k).frame, .int .i64 (Fs k).first, .int .i64 (Fs k).count, .int .i64 (Fs k).params]).only ((Only.refl (fun b => b = w.heap.size + 1) _).grown hg fun j hj => .inl (by injection hj with hj; exact hj.symm)) (by omega))
            have MPW := Lib.hid S3.out.mp
            have hkk : i64in (k : Int) := ⟨by omega, by omega⟩
            go_wp2_with (first
              | (at_mapUpdate; go_must (refine wpList_sput rfl (.tmp 51) (.tmp 53) (.tmp 54) 71 rfl Try.underlying71 Try.underlying9 Try.underlying3 MPW.out rfl (by unfold maxLen; omega) _ _ rfl rfl hsz hkk ?_); go_must (intro w2 hm2 hg2; have S4 := Lib.hid (PUT.out w2 hm2 hg2); have BF := Lib.hid (PUTB.out w2 hg2); clear hm2 hg2; have d0 := S4.out.b1.cell 0; have d1 := S4.out.b1.cell 1; have d2 := S4.out.b1.cell 2; have e0 := BF.out.cell 0; have e1 := BF.out.cell 1; have e2 := BF.out.cell 2; have e3 := BF.out.cell 3; have e4 := BF.out.cell 4; have l1 := S4.out.b1.lt; have l2 := BF.out.lt)))
            refine (FC.out _ S4.out).mono ?_
            rintro e w3 ⟨r, rfl, hr, hb⟩
            have HR := Lib.hid hr
            have S5 := Lib.hid (S4.out.later hb)
            clear hr hb FC
            cases r with
            | false =>
              have E := Lib.hid (BADF.out (fun h => by have := HR.out.2 h; cases this) _ S5.out.below)
              clear BADF HKF
              go_wp2_with fail
              go_ret
              exact E.out
            | true =>
              have HKN := Lib.hid (HKF.out (HR.out.1 rfl))
              clear BADF HKF
              go_wp2_with fail
              go_roundw
              case rel => exact ⟨k + 1, by omega, by go_num, rfl, hne2, hne1, S5.out, HKN.out⟩
              case measure => first | (simp [intOf]; done) | (simp [intOf]; omega)
        · have hf2 : ((Fs k).first != firstOf Fs k) = true := by simp [hf1]
          have E := Lib.hid (BADK.out (fun h => hf1 h.1) _ S3.out.below)
          clear BAD GOOD BADK HKK HK
          go_wp2_with fail
          go_ret
          exact E.out
    · have hkn : k = nf := by omega
      subst hkn
      have cB : wr.cell? ⟨w.heap.size, 0, none⟩ = some (.slice A ni ci) := S.out.b1.cell 0
      have cC : wr.cell? ⟨w.heap.size, 1, none⟩ = some (.slice B k cf) := S.out.b1.cell 1
      have cD : wr.cell? ⟨w.heap.size, 2, none⟩ = some (.int .i64 m) := S.out.b1.cell 2
      have hlb := S.out.b1.lt
      by_cases hf1 : firstOf Fs k = (ni : Int)
      · have hf2 : (firstOf Fs k != (ni : Int)) = false := by simp [hf1]
        have HF1 := Lib.hid hf1
        clear hf1
        rcases (show m < 0 ∨ (0 ≤ m ∧ (k : Int) ≤ m) ∨ (0 ≤ m ∧ m < (k : Int)) by omega) with g | ⟨g1, g2⟩ | ⟨g1, g2⟩
        · have E := Lib.hid (BAD.out (fun h => by have := h.2.2.1; omega) _ S.out.below)
          clear BAD GOOD HK
          go_wp2_with fail
          go_ret
          exact E.out
        · have E := Lib.hid (BAD.out (fun h => by have := h.2.2.2.1; omega) _ S.out.below)
          clear BAD GOOD HK
          go_wp2_with fail
          go_ret
          exact E.out
        · obtain ⟨mn, rfl⟩ := Int.eq_ofNat_of_zero_le g1
          obtain ⟨hin, hsz, b, off, rfl, _, hbl, k0, k1, k2, k3, k4⟩ := S.out.fl.2 mn (by omega)
          by_cases hp : (Fs mn).params = 0
          · have hp2 : ((Fs mn).params != 0) = false := by simp [hp]
            have E := Lib.hid (GOOD.out ⟨HK.out, HF1.out, g1, g2, by rw [Int.toNat_natCast]; exact hp⟩ _ S.out.below)
            clear BAD GOOD HK hp
            go_wp2_with fail
            go_ret
            exact E.out
          · have hp2 : ((Fs mn).params != 0) = true := by simp [hp]
            have E := Lib.hid (BAD.out (fun h => by have := h.2.2.2.2; rw [Int.toNat_natCast] at this; exact hp this) _ S.out.below)
            clear BAD GOOD HK hp
            go_wp2_with fail
            go_ret
            exact E.out
      · have hf2 : (firstOf Fs k != (ni : Int)) = true := by simp [hf1]
        have E := Lib.hid (BAD.out (fun h => hf1 h.2.1) _ S.out.below)
        clear BAD GOOD HK
        go_wp2_with fail
        go_ret
        exact E.out
end Go.Proofs.Ytkjfbojmkkdgoaa
