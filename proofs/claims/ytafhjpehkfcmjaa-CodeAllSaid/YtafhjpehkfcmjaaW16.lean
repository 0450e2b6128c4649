/- the document's low: the walk; what a writer keeps. -/
import Derived.Test.YtafhjpehkfcmjaaW15
set_option linter.unusedVariables false
set_option linter.unusedSimpArgs false
namespace Go.Proofs.Ytafhjpehkfcmjaa
open Go.RowKit
attribute [local go_sem ↓] Go.wp_at_zero Go.wp_at_succ
theorem byteOf_nat (n : Int) (j : Nat) : ((byteOf n j).toNat) = (IntKind.u64.wrap n).toNat / 256 ^ j % 256 := by
  have h := byteOf_int n j
  have h0 : 0 ≤ IntKind.u64.wrap n := by simp [IntKind.wrap, IntKind.signed, IntKind.bits]; omega
  obtain ⟨k, hk⟩ := Int.eq_ofNat_of_zero_le h0
  rw [hk] at h ⊢
  rw [Int.toNat_natCast]
  have e : (2 : Int) ^ (8 * j) = ((256 ^ j : Nat) : Int) := by
    rw [Int.pow_mul]
    norm_cast
  rw [e] at h
  omega
set_option maxRecDepth 100000 in
set_option maxHeartbeats 16000000 in
theorem dlow_c (n : Int) (hn : i64in n) (size : Nat) (hs : size ≤ 8) (w : World) (H : Nat) (hH : H ≤ w.heap.size) (v : Value) (l : List UInt8) (hv : BR w H v l) (hl : l.length ≤ 999999000) :
    Calls Try.prog 33 #[v, .int .i64 n, .int .i64 size] w fun e w' => ∃ v', e = .returned v' ∧ BR w' H v' (l ++ lowB n size) ∧ Only (fun b => v.ownBlock = some b) w w' := by
  obtain ⟨n1, n2⟩ := hn
  have S0 : Hid (BR w H v (l ++ lowB n 0)) := by show BR w H v (l ++ lowB n 0); rw [lowB, List.append_nil]; exact hv
  have O0 := Lib.hid (Only.refl (fun b => v.ownBlock = some b) w)
  have BO := Lib.hid (byteOf_nat n)
  have h0 : 0 ≤ IntKind.u64.wrap n := by simp [IntKind.wrap, IntKind.signed, IntKind.bits]; omega
  have h1 : IntKind.u64.wrap n < 18446744073709551616 := by simp [IntKind.wrap, IntKind.signed, IntKind.bits]; omega
  clear hv
  go_enter Try.func33, Try.ntmps33
  go_wp2_with fail
  generalize IntKind.u64.wrap n = N at *
  obtain ⟨N, rfl⟩ := Int.eq_ofNat_of_zero_le h0
  go_loopw [0, 7, 8] (fun vv xv jv wx => ∃ j : Nat, j ≤ size ∧ jv = .int .i64 (j : Int) ∧ (∃ x : Nat, xv = .int .u64 (x : Int) ∧ x < 18446744073709551616 ∧ Hid (x = N / 256 ^ j)) ∧ Hid (BR wx H vv (l ++ lowB n j)) ∧ Hid (Only (fun b => v.ownBlock = some b) w wx) ∧ Hid (vv.ownBlock = v.ownBlock ∨ ∃ g, vv.ownBlock = some g ∧ w.heap.size ≤ g)) (fun _ _ jv _ => size - (intOf jv).toNat)
  case atStart => exact ⟨0, by omega, rfl, ⟨N, rfl, by omega, by show N = N / 256 ^ 0; simp⟩, S0, O0, .inl rfl⟩
  case round =>
    clear S0 O0
    obtain ⟨j, hj, rfl, ⟨x, rfl, hx, X⟩, S, O, V⟩ := hrel
    by_cases hlt : j < size
    · have hsz := O.out.size
      have LL : Hid ((l ++ lowB n j).length ≤ 1000000000) := by show (l ++ lowB n j).length ≤ 1000000000; rw [List.length_append, lowB_length]; omega
      have BJ : Hid (((byteOf n j).toNat : Int) = (x : Int) % 256) := by
        show ((byteOf n j).toNat : Int) = (x : Int) % 256
        rw [BO.out j, X.out]; simp
      have XN : Hid (x / 256 = N / 256 ^ (j + 1)) := by show x / 256 = N / 256 ^ (j + 1); rw [X.out, Nat.div_div_eq_div_mul, Nat.pow_succ]
      clear BO X
      go_wp2_with (first | (at_builtin; go_must (refine wpList_push rfl (.tmp 16) (.tmp 20) rfl (byteOf n j) rfl S.out (by omega) rfl BJ.out LL.out ?_); go_must (intro v2 w2 hb2 ho2 hv2; have HB := Lib.hid hb2; have HO := Lib.hid ho2; have HV := Lib.hid hv2; clear hb2 ho2 hv2)))
      have HB2 : Hid (BR w2 H v2 (l ++ lowB n (j + 1))) := by show BR w2 H v2 (l ++ lowB n (j + 1)); rw [lowB, ← List.append_assoc]; exact HB.out
      have HO2 := Lib.hid (Only.chain O.out HO.out V.out)
      have HV2 : Hid (v2.ownBlock = v.ownBlock ∨ ∃ g, v2.ownBlock = some g ∧ w.heap.size ≤ g) := by
        rcases HV.out with h | ⟨g, h, hg⟩
        · rw [h]; exact V.out
        · exact .inr ⟨g, h, by omega⟩
      go_roundw
      case rel => exact ⟨j + 1, by omega, by go_num, ⟨x / 256, by go_num, by omega, XN⟩, HB2, HO2, HV2⟩
      case measure => first | (simp [intOf]; done) | (simp [intOf]; omega)
    · have hj' : j = size := by omega
      subst hj'
      go_wp2_with fail
      go_ret
      exact ⟨u0, rfl, S.out, O.out⟩
/-- What stands while a writer writes: code in its box, and the bytes. -/
structure WS (w wr : World) (G : Nat → Prop) (A : Option Addr) (ni : Nat) (X : Nat → Ins) (B : Option Addr) (nf : Nat) (Fs : Nat → Fn) (cc : Array Value) (v : Value) (l : List UInt8) : Prop where
  ds : DS w wr G A ni X B nf Fs cc
  br : BR wr (w.heap.size + 1) v l
section
variable {w wr w2 : World} {G : Nat → Prop} {A B : Option Addr} {ni nf : Nat} {X : Nat → Ins} {Fs : Nat → Fn} {cc : Array Value} {v v2 : Value} {l l2 : List UInt8}
theorem BR.mono {H H' : Nat} (h : BR w H v l) (hH : H' ≤ H) : BR w H' v l := by
  refine ⟨h.1, ?_⟩
  rcases h.2 with h0 | ⟨g, cap, cur, e, hb, r⟩
  · exact .inl h0
  · exact .inr ⟨g, cap, cur, e, Nat.le_trans hH hb, r⟩
theorem WS.only {F : Nat → Prop} (hG : ∀ b, G b → b < w.heap.size) (h : WS w wr G A ni X B nf Fs cc v l) (o : Only F wr w2) (hF : ∀ b, b ≤ w.heap.size → ¬ F b) (hb : BR w2 (w.heap.size + 1) v2 l2) : WS w w2 G A ni X B nf Fs cc v2 l2 :=
  ⟨⟨h.ds.b1.only o (hF _ (Nat.le_refl _)), h.ds.il.only o (fun b _ hg => hF b (by have := hG b hg; omega)), h.ds.fl.only o (fun b _ hg => hF b (by have := hG b hg; omega)), h.ds.below.trans (o.toBelow h.ds.below.size (fun b hb => hF b (by omega)))⟩, hb⟩
theorem WS.own (hG : ∀ b, G b → b < w.heap.size) (h : WS w wr G A ni X B nf Fs cc v l) (o : Only (fun b => v.ownBlock = some b) wr w2) (hb : BR w2 (w.heap.size + 1) v2 l2) : WS w w2 G A ni X B nf Fs cc v2 l2 :=
  h.only hG o (fun b hb he => by have := (h.br.lt he).1; omega) hb
theorem WS.quiet (h : WS w wr G A ni X B nf Fs cc v l) (o : Only (fun _ => False) wr w2) : WS w w2 G A ni X B nf Fs cc v l :=
  ⟨h.ds.only o, h.br.only o (fun _ _ h => h)⟩
theorem WS.alloc (h : WS w wr G A ni X B nf Fs cc v l) (o : Obj) : WS w (wr.alloc o) G A ni X B nf Fs cc v l := h.quiet ((Only.refl _ _).alloc o)
end
/-- One string more, at the operation. -/
theorem wpList_pushS {w0 : World} {ops : Array Oper} {rest : List Oper} {o : Oper} {a : Act} {Q : Exit → Act → World → Prop} (hgd : o.guard = none) (s x : Operand)
    (ho : o.op = .call { callee := .builtin .append, args := #[s, x], argTypes := #[28, 9] }) {H : Nat} {v : Value} {l : List UInt8} (b : ByteArray) (hs : a.eval s = v) (hown : BR w0 H v l) (hH : H ≤ w0.heap.size)
    (hx : a.eval x = .string b) (hl : l.length + b.size ≤ 1000000000)
    (h : ∀ v' w', BR w' H v' (l ++ b.data.toList) → Only (fun b => v.ownBlock = some b) w0 w' → wpList Try.prog ops Q rest (a.put o.dst v') w') :
    wpList Try.prog ops Q (o :: rest) a w0 := by
  obtain ⟨i0, hi0, hz0, hz1, hz2⟩ := u8_info
  refine Lib.wpList_append_own_string w0 hgd s x 28 9 ho H 5 i0 Try.underlying28 Try.underlying9 hi0 hz0 hz1 hz2 v l.length (byts l) hs hown b hx (by unfold maxLen; omega) (by omega) hH ?_
  intro v' w' hr hg _
  refine h v' w' ?_ ((Only.refl _ w0).grown hg fun j hj => .inl hj)
  have e : (l ++ b.data.toList).length = l.length + b.size := by rw [List.length_append, Array.length_toList]; rfl
  unfold BR
  rw [e, byts_append]
  exact hr
/-- The row of a literal that was turned into bytes: full, and marked behind its last cell. -/
def Mk (w : World) (H : Nat) (v : Value) (l : List UInt8) : Prop := ∃ g, v = .slice (some ⟨g, 0, none⟩) l.length l.length ∧ H ≤ g ∧ w.heap[g]? = some (.cells (byts l).toArray 5 (l.length, l.length + 1))
def BM (w : World) (H : Nat) (v : Value) (l : List UInt8) : Prop := BR w H v l ∨ Mk w H v l
theorem heap_lt {w : World} {g : Nat} {o : Obj} (h : w.heap[g]? = some o) : g < w.heap.size := by
  rcases Nat.lt_or_ge g w.heap.size with h1 | h1
  · exact h1
  · rw [Array.getElem?_eq_none h1] at h; cases h
theorem byts_cell {w : World} {g : Nat} {l : List UInt8} {t : TypeId} {fz : Nat × Nat} (h : w.heap[g]? = some (.cells (byts l).toArray t fz)) (j : Nat) (u : Value) (hj : (byts l)[j]? = some u) : w.cell? ((⟨g, 0, none⟩ : Addr).add j) = some u := by
  rw [Go.WideShapes.add_plain, Nat.zero_add, cell_of_row w g j _ t fz h]
  simpa using hj
theorem wpList_pushM {w0 : World} {ops : Array Oper} {rest : List Oper} {o : Oper} {a : Act} {Q : Exit → Act → World → Prop} (hgd : o.guard = none) (s x : Operand)
    (ho : o.op = .call { callee := .builtin .append, args := #[s, x], argTypes := #[28, 28] }) {H : Nat} {v : Value} {l : List UInt8} {c : Int} (b : UInt8) (hs : a.eval s = v) (hown : BM w0 H v l) (hH : H ≤ w0.heap.size)
    (hx : a.eval x = .slice (some ⟨w0.heap.size, 0, none⟩) 1 1) (hc : (b.toNat : Int) = c) (hl : l.length ≤ 1000000000)
    (h : ∀ v' w', BR w' H v' (l ++ [b]) → Only (fun b => v.ownBlock = some b) w0 w' → (v'.ownBlock = v.ownBlock ∨ ∃ g, v'.ownBlock = some g ∧ w0.heap.size ≤ g) → wpList Try.prog ops Q rest (a.put o.dst v') w') :
    wpList Try.prog ops Q (o :: rest) a (w0.alloc (.cells #[.int .u8 c] 5)) := by
  rcases hown with hown | ⟨g, rfl, hg, hh⟩
  · exact wpList_push hgd s x ho b hs hown hH hx hc hl h
  subst hc
  obtain ⟨i0, hi0, hz0, hz1, hz2⟩ := u8_info
  have hlt := heap_lt hh
  have hb : (byts l).length = l.length := by simp [byts]
  have hh2 : (w0.alloc (.cells #[.int .u8 (b.toNat : Int)] 5)).heap[g]? = some (.cells (byts l).toArray 5 (l.length, l.length + 1)) := (Below.heap_alloc w0 _ g hlt).trans hh
  have hn : ∀ (j : Nat) (u : Value), [Value.int .u8 (b.toNat : Int)][j]? = some u → (w0.alloc (.cells #[.int .u8 (b.toNat : Int)] 5)).cell? ((⟨w0.heap.size, 0, none⟩ : Addr).add j) = some u :=
    World.news_of_block (cs := #[.int .u8 (b.toNat : Int)]) (t := 5) (fr := (0, 0)) (heap_alloc_new _ _)
  have hr := run_append_grow (P := Try.prog) (w0.alloc (.cells #[.int .u8 (b.toNat : Int)] 5)) 28 o.type 5 i0 (.int .u8 0) Try.underlying28 hi0 hz0 ⟨g, 0, none⟩ l.length l.length (byts l) (by rw [hz1, hb]; simp) (byts_cell hh2) ⟨w0.heap.size, 0, none⟩ 1 1 [.int .u8 (b.toNat : Int)] (by rw [hz1]; rfl) hn (by omega) (by omega) (growslice_fits (by omega) (by rw [hz2]; omega))
  have hz : (Value.int IntKind.u8 0).cells.size = 1 := rfl
  have hge := grownCap_ge (w0.alloc (.cells #[.int .u8 (b.toNat : Int)] 5)) (l.length + 1) l.length 5
  have hcm := grownCap_le_maxLen (w0.alloc (.cells #[.int .u8 (b.toNat : Int)] 5)) (l.length + 1) l.length 5 (by unfold maxLen; omega)
  refine wpList_plain hgd fun _ hK => ?_
  unfold Oper.wp execOp
  simp only [ho, resolve, invoke, builtin, Sem.run_bind, Sem.run_pure, Result.andThen_ok, List.map_toArray, List.map_cons, List.map_nil, hs, hx, hr]
  refine hK _ _ (h _ _ ⟨by simp [byts], .inr ⟨_, _, _, by simp, ?_, heap_alloc_new _ _, by simpa using hge, hcm, ?_, ?_⟩⟩ (((Only.refl _ w0).alloc _).drew.alloc _) (.inr ⟨_, rfl, by simp⟩))
  · simp; omega
  · simp only [Array.size_append, List.size_toArray, size_zeroCells, hz, hb]
    simp
    omega
  · have e : (l ++ [b]).length * 1 = (byts (l ++ [b])).length := by simp [byts]
    rw [e]
    simp only [Array.toList_append, byts_append]
    exact List.take_left
set_option maxRecDepth 100000 in
set_option maxHeartbeats 16000000 in
theorem lowM_c (n : Int) (hn : i64in n) (size : Nat) (hs : size ≤ 8) (hs1 : 1 ≤ size) (w : World) (H : Nat) (hH : H ≤ w.heap.size) (v : Value) (l : List UInt8) (hv : BM w H v l) (hl : l.length ≤ 999999000) :
    Calls Try.prog 26 #[v, .int .i64 n, .int .i64 size] w fun e w' => ∃ v', e = .returned v' ∧ BR w' H v' (l ++ lowB n size) ∧ Only (fun b => v.ownBlock = some b) w w' := by
  obtain ⟨n1, n2⟩ := hn
  have S0 : Hid (BM w H v (l ++ lowB n 0)) := by show BM w H v (l ++ lowB n 0); rw [lowB, List.append_nil]; exact hv
  have O0 := Lib.hid (Only.refl (fun b => v.ownBlock = some b) w)
  clear hv
  go_enter Try.func26, Try.ntmps26
  go_wp2_with fail
  go_loopw [0, 9] (fun vv jv wx => ∃ j : Nat, j ≤ size ∧ jv = .int .i64 (j : Int) ∧ Hid (BM wx H vv (l ++ lowB n j)) ∧ Hid (0 < j → BR wx H vv (l ++ lowB n j)) ∧ Hid (Only (fun b => v.ownBlock = some b) w wx) ∧ Hid (vv.ownBlock = v.ownBlock ∨ ∃ g, vv.ownBlock = some g ∧ w.heap.size ≤ g)) (fun _ jv _ => size - (intOf jv).toNat)
  case atStart => exact ⟨0, by omega, rfl, S0, fun h => absurd h (by omega), O0, .inl rfl⟩
  case round =>
    clear S0 O0
    obtain ⟨j, hj, rfl, S, SB, O, V⟩ := hrel
    by_cases hlt : j < size
    · have hsz := O.out.size
      have LL : Hid ((l ++ lowB n j).length ≤ 1000000000) := by show (l ++ lowB n j).length ≤ 1000000000; rw [List.length_append, lowB_length]; omega
      clear SB
      go_wp2_with (first | (at_builtin; go_must (refine wpList_pushM rfl (.tmp 12) (.tmp 19) rfl (byteOf n j) rfl S.out (by omega) rfl (byteOf_int n j) LL.out ?_); go_must (intro v2 w2 hb2 ho2 hv2; have HB := Lib.hid hb2; have HO := Lib.hid ho2; have HV := Lib.hid hv2; clear hb2 ho2 hv2)))
      have HB2 : Hid (BR w2 H v2 (l ++ lowB n (j + 1))) := by show BR w2 H v2 (l ++ lowB n (j + 1)); rw [lowB, ← List.append_assoc]; exact HB.out
      have HO2 := Lib.hid (Only.chain O.out HO.out V.out)
      have HV2 : Hid (v2.ownBlock = v.ownBlock ∨ ∃ g, v2.ownBlock = some g ∧ w.heap.size ≤ g) := by
        rcases HV.out with h | ⟨g, h, hg⟩
        · rw [h]; exact V.out
        · exact .inr ⟨g, h, by omega⟩
      go_roundw
      case rel => exact ⟨j + 1, by omega, by go_num, .inl HB2.out, fun _ => HB2.out, HO2, HV2⟩
      case measure => first | (simp [intOf]; done) | (simp [intOf]; omega)
    · have hj' : j = size := by omega
      subst hj'
      go_wp2_with fail
      go_ret
      exact ⟨u0, rfl, SB.out (by omega), O.out⟩
/-- The same, the new block's number given. -/
theorem wpList_pushN {w0 : World} {ops : Array Oper} {rest : List Oper} {o : Oper} {a : Act} {Q : Exit → Act → World → Prop} (hgd : o.guard = none) (s x : Operand)
    (ho : o.op = .call { callee := .builtin .append, args := #[s, x], argTypes := #[28, 28] }) {H : Nat} {v : Value} {l : List UInt8} {c : Int} (b : UInt8) (hs : a.eval s = v) (hown : BR w0 H v l) (hH : H ≤ w0.heap.size)
    (N : Nat) (hN : w0.heap.size = N) (hx : a.eval x = .slice (some ⟨N, 0, none⟩) 1 1) (hc : (b.toNat : Int) = c) (hl : l.length ≤ 1000000000)
    (h : ∀ v' w', BR w' H v' (l ++ [b]) → Only (fun b => v.ownBlock = some b) w0 w' → wpList Try.prog ops Q rest (a.put o.dst v') w') :
    wpList Try.prog ops Q (o :: rest) a (w0.alloc (.cells #[.int .u8 c] 5)) := by
  subst hN
  exact wpList_push hgd s x ho b hs hown hH hx hc hl fun v' w' h1 h2 _ => h v' w' h1 h2
end Go.Proofs.Ytafhjpehkfcmjaa
