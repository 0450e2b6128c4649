/- code's bytes: plain things; low. -/
import Derived.Test.YtafhjpehkfcmjaaW13
import Derived.Deep.AppendLies
import Derived.Lib.AppendStr
set_option linter.unusedVariables false
set_option linter.unusedSimpArgs false
namespace Go.Proofs.Ytafhjpehkfcmjaa
open Go.RowKit
attribute [local go_sem ↓] Go.wp_at_zero Go.wp_at_succ
def byts (l : List UInt8) : List Value := l.map fun b => .int .u8 b.toNat
theorem byts_append (l m : List UInt8) : byts (l ++ m) = byts l ++ byts m := List.map_append
theorem byts_str (s : ByteArray) : Lib.strCells s = byts s.data.toList := rfl
/-- The k-th byte of a number. -/
def byteOf (v : Int) (k : Nat) : UInt8 := UInt8.ofNat (IntKind.u64.wrap v / 2 ^ (8 * k) % 256).toNat
theorem byteOf_int (v : Int) (k : Nat) : ((byteOf v k).toNat : Int) = IntKind.u64.wrap v / 2 ^ (8 * k) % 256 := by
  have h := Int.emod_nonneg (IntKind.u64.wrap v / 2 ^ (8 * k)) (show (256 : Int) ≠ 0 by decide)
  have h2 := Int.emod_lt_of_pos (IntKind.u64.wrap v / 2 ^ (8 * k)) (show (0 : Int) < 256 by decide)
  unfold byteOf
  rw [UInt8.toNat_ofNat']
  omega
def lowB (v : Int) : Nat → List UInt8
  | 0 => []
  | k + 1 => lowB v k ++ [byteOf v k]
theorem lowB_length (v : Int) : ∀ k, (lowB v k).length = k
  | 0 => rfl
  | k + 1 => by rw [lowB, List.length_append, lowB_length v k]; rfl
/-- A row of bytes that the call owns. -/
def BR (w : World) (H : Nat) (v : Value) (l : List UInt8) : Prop := w.ownsRow H 5 1 v l.length (byts l)
theorem info_of {P : Program} {t : TypeId} {z : Value} {n b : Nat} (h : (P.info? t).map (fun i => (i.zero, i.size, i.bytes)) = some (some z, n, b)) : ∃ i, P.info? t = some i ∧ i.zero = some z ∧ i.size = n ∧ i.bytes = b := by
  cases hq : P.info? t with
  | none => simp [hq] at h
  | some i => simp [hq] at h; exact ⟨i, rfl, h.1, h.2.1, h.2.2⟩
theorem u8_info : ∃ i, Try.prog.info? 5 = some i ∧ i.zero = some (.int .u8 0) ∧ i.size = 1 ∧ i.bytes = 1 := info_of (by kernel_rfl)
theorem BR.lt {w : World} {H : Nat} {v : Value} {l : List UInt8} (h : BR w H v l) {b : Nat} (hb : v.ownBlock = some b) : H ≤ b ∧ b < w.heap.size := ⟨(World.ownsRow.lt h b hb).1, (World.ownsRow.lt h b hb).2⟩
theorem BR.only {w w' : World} {H : Nat} {v : Value} {l : List UInt8} {F : Nat → Prop} (h : BR w H v l) (o : Only F w w') (hne : ∀ b, v.ownBlock = some b → ¬ F b) : BR w' H v l := by
  refine ⟨h.1, ?_⟩
  rcases h.2 with h0 | ⟨g, cap, cur, rfl, hb, hh, r⟩
  · exact .inl h0
  · exact .inr ⟨g, cap, cur, rfl, hb, (o.block g ((World.ownsRow.lt h g rfl).2) (hne g rfl)).trans hh, r⟩
theorem BR.alloc {w : World} {H : Nat} {v : Value} {l : List UInt8} (h : BR w H v l) (o : Obj) : BR (w.alloc o) H v l := World.ownsRow.alloc h o
theorem BR.ne {w : World} {H : Nat} {v : Value} {l : List UInt8} (h : BR w H v l) {g : Nat} {t : TypeId} {cs : Array Value} (hg : Blk w g t cs) (ht : (5 : TypeId) ≠ t) : v.ownBlock ≠ some g := own_blk_ne h hg ht
theorem BR.shape {w : World} {H : Nat} {v : Value} {l : List UInt8} (h : BR w H v l) : ∃ A cap, v = .slice A l.length cap ∧ l.length ≤ cap := by
  rcases h.2 with ⟨rfl, h0⟩ | ⟨g, cap, cur, rfl, _, _, hnc, _⟩
  · exact ⟨none, 0, by rw [h0], by omega⟩
  · exact ⟨_, cap, rfl, hnc⟩
theorem Only.chain {w w1 w2 : World} {v v1 : Value} (h : Only (fun b => v.ownBlock = some b) w w1) (h2 : Only (fun b => v1.ownBlock = some b) w1 w2) (hv : v1.ownBlock = v.ownBlock ∨ ∃ g, v1.ownBlock = some g ∧ w.heap.size ≤ g) : Only (fun b => v.ownBlock = some b) w w2 := by
  refine ⟨h2.os.trans h.os, h2.tape.trans h.tape, h2.output.trans h.output, Nat.le_trans h.size h2.size, fun k hk hn => ?_⟩
  refine (h2.block k (Nat.lt_of_lt_of_le hk h.size) ?_).trans (h.block k hk hn)
  intro he
  rcases hv with hv | ⟨g, hv, hg⟩
  · rw [hv] at he; exact hn he
  · rw [hv] at he; injection he with he; omega
/-- One byte more, at the operation. -/
theorem wpList_push {w0 : World} {ops : Array Oper} {rest : List Oper} {o : Oper} {a : Act} {Q : Exit → Act → World → Prop} (hgd : o.guard = none) (s x : Operand)
    (ho : o.op = .call { callee := .builtin .append, args := #[s, x], argTypes := #[28, 28] }) {H : Nat} {v : Value} {l : List UInt8} {c : Int} (b : UInt8) (hs : a.eval s = v) (hown : BR w0 H v l) (hH : H ≤ w0.heap.size)
    (hx : a.eval x = .slice (some ⟨w0.heap.size, 0, none⟩) 1 1) (hc : (b.toNat : Int) = c) (hl : l.length ≤ 1000000000)
    (h : ∀ v' w', BR w' H v' (l ++ [b]) → Only (fun b => v.ownBlock = some b) w0 w' → (v'.ownBlock = v.ownBlock ∨ ∃ g, v'.ownBlock = some g ∧ w0.heap.size ≤ g) → wpList Try.prog ops Q rest (a.put o.dst v') w') :
    wpList Try.prog ops Q (o :: rest) a (w0.alloc (.cells #[.int .u8 c] 5)) := by
  subst hc
  obtain ⟨i0, hi0, hz0, hz1, hz2⟩ := u8_info
  have hl2 : (l ++ [b]).length = l.length + 1 := by simp
  refine wpList_append_lies _ hgd s x 28 ho H 5 i0 _ 1 1 Try.underlying28 hi0 hz0 hz1 hz2 rfl (by omega) v l.length (byts l) hs (hown.alloc _) ⟨w0.heap.size, 0, none⟩ 1 1 [.int .u8 (b.toNat : Int)] hx rfl (World.news_of_block (cs := #[.int .u8 (b.toNat : Int)]) (t := 5) (fr := (0, 0)) (heap_alloc_new _ _)) (by simp [Value.oneCell']) (by omega) (by unfold maxLen; omega) (by omega) (by simp; omega) (w0.heap.size + 1) (by simp) ?_
  intro g cap w' hr hg hv hgl
  refine h _ w' ?_ ?_ ?_
  · unfold BR
    rw [hl2, byts_append]
    exact hr
  · exact ((Only.refl _ w0).alloc _).grown hg fun j hj => .inl hj
  · rcases hv with hv | rfl
    · exact .inl hv.symm
    · exact .inr ⟨_, rfl, Nat.le_succ _⟩
set_option maxRecDepth 100000 in
set_option maxHeartbeats 16000000 in
theorem low_c (n : Int) (hn : i64in n) (size : Nat) (hs : size ≤ 8) (w : World) (H : Nat) (hH : H ≤ w.heap.size) (v : Value) (l : List UInt8) (hv : BR w H v l) (hl : l.length ≤ 999999000) :
    Calls Try.prog 26 #[v, .int .i64 n, .int .i64 size] w fun e w' => ∃ v', e = .returned v' ∧ BR w' H v' (l ++ lowB n size) ∧ Only (fun b => v.ownBlock = some b) w w' := by
  obtain ⟨n1, n2⟩ := hn
  have S0 : Hid (BR w H v (l ++ lowB n 0)) := by show BR w H v (l ++ lowB n 0); rw [lowB, List.append_nil]; exact hv
  have O0 := Lib.hid (Only.refl (fun b => v.ownBlock = some b) w)
  clear hv
  go_enter Try.func26, Try.ntmps26
  go_wp2_with fail
  go_loopw [0, 9] (fun vv jv wx => ∃ j : Nat, j ≤ size ∧ jv = .int .i64 (j : Int) ∧ Hid (BR wx H vv (l ++ lowB n j)) ∧ Hid (Only (fun b => v.ownBlock = some b) w wx) ∧ Hid (vv.ownBlock = v.ownBlock ∨ ∃ g, vv.ownBlock = some g ∧ w.heap.size ≤ g)) (fun _ jv _ => size - (intOf jv).toNat)
  case atStart => exact ⟨0, by omega, rfl, S0, O0, .inl rfl⟩
  case round =>
    clear S0 O0
    obtain ⟨j, hj, rfl, S, O, V⟩ := hrel
    by_cases hlt : j < size
    · have hsz := O.out.size
      have LL : Hid ((l ++ lowB n j).length ≤ 1000000000) := by show (l ++ lowB n j).length ≤ 1000000000; rw [List.length_append, lowB_length]; omega
      go_wp2_with (first | (at_builtin; go_must (refine wpList_push rfl (.tmp 12) (.tmp 19) rfl (byteOf n j) rfl S.out (by omega) rfl (byteOf_int n j) LL.out ?_); go_must (intro v2 w2 hb2 ho2 hv2; have HB := Lib.hid hb2; have HO := Lib.hid ho2; have HV := Lib.hid hv2; clear hb2 ho2 hv2)))
      have HB2 : Hid (BR w2 H v2 (l ++ lowB n (j + 1))) := by show BR w2 H v2 (l ++ lowB n (j + 1)); rw [lowB, ← List.append_assoc]; exact HB.out
      have HO2 := Lib.hid (Only.chain O.out HO.out V.out)
      have HV2 : Hid (v2.ownBlock = v.ownBlock ∨ ∃ g, v2.ownBlock = some g ∧ w.heap.size ≤ g) := by
        rcases HV.out with h | ⟨g, h, hg⟩
        · rw [h]; exact V.out
        · exact .inr ⟨g, h, by omega⟩
      go_roundw
      case rel => exact ⟨j + 1, by omega, by go_num, HB2, HO2, HV2⟩
      case measure => first | (simp [intOf]; done) | (simp [intOf]; omega)
    · have hj' : j = size := by omega
      subst hj'
      go_wp2_with fail
      go_ret
      exact ⟨u0, rfl, S.out, O.out⟩
end Go.Proofs.Ytafhjpehkfcmjaa
