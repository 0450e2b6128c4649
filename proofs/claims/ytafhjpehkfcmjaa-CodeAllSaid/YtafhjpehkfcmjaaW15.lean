/- code's bytes: plain things; low. code's bytes: what they are; size. -/
import Derived.Test.YtafhjpehkfcmjaaW13
import Derived.Deep.AppendLies
import Derived.Lib.AppendStr
set_option linter.unusedVariables false
set_option linter.unusedSimpArgs false
namespace Go.Proofs.Ytafhjpehkfcmjaa
open Go.RowKit
attribute [local go_sem ↓] Go.wp_at_zero Go.wp_at_succ
def byts (l : List UInt8) : List Value := l.map fun b => .int .u8 b.toNat
theorem byts_append (l m : List UInt8) : byts (l ++ m) = byts l ++ byts m := List.map_append
theorem byts_str (s : ByteArray) : Lib.strCells s = byts s.data.toList := rfl
/-- The k-th byte of a number. -/
def byteOf (v : Int) (k : Nat) : UInt8 := UInt8.ofNat (IntKind.u64.wrap v / 2 ^ (8 * k) % 256).toNat
theorem byteOf_int (v : Int) (k : Nat) : ((byteOf v k).toNat : Int) = IntKind.u64.wrap v / 2 ^ (8 * k) % 256 := by
  have h := Int.emod_nonneg (IntKind.u64.wrap v / 2 ^ (8 * k)) (show (256 : Int) ≠ 0 by decide)
  have h2 := Int.emod_lt_of_pos (IntKind.u64.wrap v / 2 ^ (8 * k)) (show (0 : Int) < 256 by decide)
  unfold byteOf
  rw [UInt8.toNat_ofNat']
  omega
def lowB (v : Int) : Nat → List UInt8
  | 0 => []
  | k + 1 => lowB v k ++ [byteOf v k]
theorem lowB_length (v : Int) : ∀ k, (lowB v k).length = k
  | 0 => rfl
  | k + 1 => by rw [lowB, List.length_append, lowB_length v k]; rfl
/-- A row of bytes that the call owns. -/
def BR (w : World) (H : Nat) (v : Value) (l : List UInt8) : Prop := w.ownsRow H 5 1 v l.length (byts l)
theorem info_of {P : Program} {t : TypeId} {z : Value} {n b : Nat} (h : (P.info? t).map (fun i => (i.zero, i.size, i.bytes)) = some (some z, n, b)) : ∃ i, P.info? t = some i ∧ i.zero = some z ∧ i.size = n ∧ i.bytes = b := by
  cases hq : P.info? t with
  | none => simp [hq] at h
  | some i => simp [hq] at h; exact ⟨i, rfl, h.1, h.2.1, h.2.2⟩
theorem u8_info : ∃ i, Try.prog.info? 5 = some i ∧ i.zero = some (.int .u8 0) ∧ i.size = 1 ∧ i.bytes = 1 := info_of (by kernel_rfl)
theorem BR.lt {w : World} {H : Nat} {v : Value} {l : List UInt8} (h : BR w H v l) {b : Nat} (hb : v.ownBlock = some b) : H ≤ b ∧ b < w.heap.size := ⟨(World.ownsRow.lt h b hb).1, (World.ownsRow.lt h b hb).2⟩
theorem BR.only {w w' : World} {H : Nat} {v : Value} {l : List UInt8} {F : Nat → Prop} (h : BR w H v l) (o : Only F w w') (hne : ∀ b, v.ownBlock = some b → ¬ F b) : BR w' H v l := by
  refine ⟨h.1, ?_⟩
  rcases h.2 with h0 | ⟨g, cap, cur, rfl, hb, hh, r⟩
  · exact .inl h0
  · exact .inr ⟨g, cap, cur, rfl, hb, (o.block g ((World.ownsRow.lt h g rfl).2) (hne g rfl)).trans hh, r⟩
theorem BR.alloc {w : World} {H : Nat} {v : Value} {l : List UInt8} (h : BR w H v l) (o : Obj) : BR (w.alloc o) H v l := World.ownsRow.alloc h o
theorem BR.ne {w : World} {H : Nat} {v : Value} {l : List UInt8} (h : BR w H v l) {g : Nat} {t : TypeId} {cs : Array Value} (hg : Blk w g t cs) (ht : (5 : TypeId) ≠ t) : v.ownBlock ≠ some g := own_blk_ne h hg ht
theorem BR.shape {w : World} {H : Nat} {v : Value} {l : List UInt8} (h : BR w H v l) : ∃ A cap, v = .slice A l.length cap ∧ l.length ≤ cap := by
  rcases h.2 with ⟨rfl, h0⟩ | ⟨g, cap, cur, rfl, _, _, hnc, _⟩
  · exact ⟨none, 0, by rw [h0], by omega⟩
  · exact ⟨_, cap, rfl, hnc⟩
theorem Only.chain {w w1 w2 : World} {v v1 : Value} (h : Only (fun b => v.ownBlock = some b) w w1) (h2 : Only (fun b => v1.ownBlock = some b) w1 w2) (hv : v1.ownBlock = v.ownBlock ∨ ∃ g, v1.ownBlock = some g ∧ w.heap.size ≤ g) : Only (fun b => v.ownBlock = some b) w w2 := by
  refine ⟨h2.os.trans h.os, h2.tape.trans h.tape, h2.output.trans h.output, Nat.le_trans h.size h2.size, fun k hk hn => ?_⟩
  refine (h2.block k (Nat.lt_of_lt_of_le hk h.size) ?_).trans (h.block k hk hn)
  intro he
  rcases hv with hv | ⟨g, hv, hg⟩
  · rw [hv] at he; exact hn he
  · rw [hv] at he; injection he with he; omega
/-- One byte more, at the operation. -/
theorem wpList_push {w0 : World} {ops : Array Oper} {rest : List Oper} {o : Oper} {a : Act} {Q : Exit → Act → World → Prop} (hgd : o.guard = none) (s x : Operand)
    (ho : o.op = .call { callee := .builtin .append, args := #[s, x], argTypes := #[28, 28] }) {H : Nat} {v : Value} {l : List UInt8} {c : Int} (b : UInt8) (hs : a.eval s = v) (hown : BR w0 H v l) (hH : H ≤ w0.heap.size)
    (hx : a.eval x = .slice (some ⟨w0.heap.size, 0, none⟩) 1 1) (hc : (b.toNat : Int) = c) (hl : l.length ≤ 1000000000)
    (h : ∀ v' w', BR w' H v' (l ++ [b]) → Only (fun b => v.ownBlock = some b) w0 w' → (v'.ownBlock = v.ownBlock ∨ ∃ g, v'.ownBlock = some g ∧ w0.heap.size ≤ g) → wpList Try.prog ops Q rest (a.put o.dst v') w') :
    wpList Try.prog ops Q (o :: rest) a (w0.alloc (.cells #[.int .u8 c] 5)) := by
  subst hc
  obtain ⟨i0, hi0, hz0, hz1, hz2⟩ := u8_info
  have hl2 : (l ++ [b]).length = l.length + 1 := by simp
  refine wpList_append_lies _ hgd s x 28 ho H 5 i0 _ 1 1 Try.underlying28 hi0 hz0 hz1 hz2 rfl (by omega) v l.length (byts l) hs (hown.alloc _) ⟨w0.heap.size, 0, none⟩ 1 1 [.int .u8 (b.toNat : Int)] hx rfl (World.news_of_block (cs := #[.int .u8 (b.toNat : Int)]) (t := 5) (fr := (0, 0)) (heap_alloc_new _ _)) (by simp [Value.oneCell']) (by omega) (by unfold maxLen; omega) (by omega) (by simp; omega) (w0.heap.size + 1) (by simp) ?_
  intro g cap w' hr hg hv hgl
  refine h _ w' ?_ ?_ ?_
  · unfold BR
    rw [hl2, byts_append]
    exact hr
  · exact ((Only.refl _ w0).alloc _).grown hg fun j hj => .inl hj
  · rcases hv with hv | rfl
    · exact .inl hv.symm
    · exact .inr ⟨_, rfl, Nat.le_succ _⟩
set_option maxRecDepth 100000 in
set_option maxHeartbeats 16000000 in
theorem low_c (n : Int) (hn : i64in n) (size : Nat) (hs : size ≤ 8) (w : World) (H : Nat) (hH : H ≤ w.heap.size) (v : Value) (l : List UInt8) (hv : BR w H v l) (hl : l.length ≤ 999999000) :
    Calls Try.prog 26 #[v, .int .i64 n, .int .i64 size] w fun e w' => ∃ v', e = .returned v' ∧ BR w' H v' (l ++ lowB n size) ∧ Only (fun b => v.ownBlock = some b) w w' := by
  obtain ⟨n1, n2⟩ := hn
  have S0 : Hid (BR w H v (l ++ lowB n 0)) := by show BR w H v (l ++ lowB n 0); rw [lowB, List.append_nil]; exact hv
  have O0 := Lib.hid (Only.refl (fun b => v.ownBlock = some b) w)
  clear hv
  go_enter Try.func26, Try.ntmps26
  go_wp2_with fail
  go_loopw [0, 9] (fun vv jv wx => ∃ j : Nat, j ≤ size ∧ jv = .int .i64 (j : Int) ∧ Hid (BR wx H vv (l ++ lowB n j)) ∧ Hid (Only (fun b => v.ownBlock = some b) w wx) ∧ Hid (vv.ownBlock = v.ownBlock ∨ ∃ g, vv.ownBlock = some g ∧ w.heap.size ≤ g)) (fun _ jv _ => size - (intOf jv).toNat)
  case atStart => exact ⟨0, by omega, rfl, S0, O0, .inl rfl⟩
  case round =>
    clear S0 O0
    obtain ⟨j, hj, rfl, S, O, V⟩ := hrel
    by_cases hlt : j < size
    · have hsz := O.out.size
      have LL : Hid ((l ++ lowB n j).length ≤ 1000000000) := by show (l ++ lowB n j).length ≤ 1000000000; rw [List.length_append, lowB_length]; omega
      go_wp2_with (first | (at_builtin; go_must (refine wpList_push rfl (.tmp 12) (.tmp 19) rfl (byteOf n j) rfl S.out (by omega) rfl (byteOf_int n j) LL.out ?_); go_must (intro v2 w2 hb2 ho2 hv2; have HB := Lib.hid hb2; have HO := Lib.hid ho2; have HV := Lib.hid hv2; clear hb2 ho2 hv2)))
      have HB2 : Hid (BR w2 H v2 (l ++ lowB n (j + 1))) := by show BR w2 H v2 (l ++ lowB n (j + 1)); rw [lowB, ← List.append_assoc]; exact HB.out
      have HO2 := Lib.hid (Only.chain O.out HO.out V.out)
      have HV2 : Hid (v2.ownBlock = v.ownBlock ∨ ∃ g, v2.ownBlock = some g ∧ w.heap.size ≤ g) := by
        rcases HV.out with h | ⟨g, h, hg⟩
        · rw [h]; exact V.out
        · exact .inr ⟨g, h, by omega⟩
      go_roundw
      case rel => exact ⟨j + 1, by omega, by go_num, HB2, HO2, HV2⟩
      case measure => first | (simp [intOf]; done) | (simp [intOf]; omega)
    · have hj' : j = size := by omega
      subst hj'
      go_wp2_with fail
      go_ret
      exact ⟨u0, rfl, S.out, O.out⟩
end Go.Proofs.Ytafhjpehkfcmjaa
namespace Go.Proofs.Ytafhjpehkfcmjaa
open Go.RowKit
attribute [local go_sem ↓] Go.wp_at_zero Go.wp_at_succ
def u8 (x : Int) : UInt8 := UInt8.ofNat (x % 256).toNat
theorem u8_int (x : Int) : ((u8 x).toNat : Int) = x % 256 := by
  have h := Int.emod_nonneg x (show (256 : Int) ≠ 0 by decide)
  have h2 := Int.emod_lt_of_pos x (show (0 : Int) < 256 by decide)
  unfold u8
  rw [UInt8.toNat_ofNat']
  omega
def fnB (f : Fn) : List UInt8 := u8 f.name.size :: (f.name.data.toList ++ lowB f.frame 8 ++ lowB f.count 4 ++ lowB f.params 1)
def regN (x : Ins) : Nat → Int
  | 0 => x.a
  | 1 => x.b
  | _ => x.c
def regsB (x : Ins) : Nat → List UInt8
  | 0 => []
  | k + 1 => regsB x k ++ [u8 (regN x k)]
def regsOf (op : Int) : Nat := (shapeOf op).1.toNat
def wideOf (op : Int) : Bool := (shapeOf op).2.1
def insB (x : Ins) : List UInt8 := u8 x.op :: (regsB x (regsOf x.op) ++ if wideOf x.op then lowB x.n 8 else [])
def fnsB (Fs : Nat → Fn) : Nat → List UInt8
  | 0 => []
  | k + 1 => fnsB Fs k ++ fnB (Fs k)
def inssB (X : Nat → Ins) : Nat → List UInt8
  | 0 => []
  | k + 1 => inssB X k ++ insB (X k)
def enc (ni : Nat) (X : Nat → Ins) (nf : Nat) (Fs : Nat → Fn) (m : Int) : List UInt8 := [113, 114, 49, 54] ++ lowB nf 4 ++ lowB m 4 ++ fnsB Fs nf ++ inssB X ni
theorem regsB_length (x : Ins) : ∀ k, (regsB x k).length = k
  | 0 => rfl
  | k + 1 => by rw [regsB, List.length_append, regsB_length x k]; rfl
theorem fnB_length (f : Fn) : (fnB f).length = 14 + f.name.size := by
  simp only [fnB, List.length_cons, List.length_append, lowB_length, Array.length_toList]
  show f.name.size + 8 + 4 + 1 + 1 = _
  omega
theorem insB_length (x : Ins) : (insB x).length = 1 + regsOf x.op + if wideOf x.op then 8 else 0 := by
  simp only [insB, List.length_cons, List.length_append, regsB_length]
  cases wideOf x.op <;> simp [lowB_length] <;> omega
theorem enc_length (ni : Nat) (X : Nat → Ins) (nf : Nat) (Fs : Nat → Fn) (m : Int) : (enc ni X nf Fs m).length = 12 + (fnsB Fs nf).length + (inssB X ni).length := by
  simp only [enc, List.length_append, lowB_length]
  simp
theorem shape_cases (op : Int) : (shapeOf op).1 = (regsOf op : Int) ∧ regsOf op ≤ 3 ∧ (shapeOf op).2.1 = wideOf op := by
  have h : 0 ≤ (shapeOf op).1 ∧ (shapeOf op).1 ≤ 3 := by
    unfold shapeOf
    repeat' split
    all_goals simp
  refine ⟨?_, ?_, rfl⟩ <;> unfold regsOf <;> omega
theorem insB_le (x : Ins) : (insB x).length ≤ 12 := by
  rw [insB_length]
  have := (shape_cases x.op).2.1
  cases wideOf x.op <;> simp <;> omega
theorem inssB_le (X : Nat → Ins) : ∀ k, (inssB X k).length ≤ 12 * k
  | 0 => by simp [inssB]
  | k + 1 => by
    have := inssB_le X k
    have := insB_le (X k)
    rw [inssB, List.length_append]
    omega
theorem fnsB_le (Fs : Nat → Fn) : ∀ k, (∀ j, j < k → (Fs j).name.size ≤ 64) → (fnsB Fs k).length ≤ 78 * k
  | 0, _ => by simp [fnsB]
  | k + 1, h => by
    have := fnsB_le Fs k (fun j hj => h j (by omega))
    have := h k (by omega)
    rw [fnsB, List.length_append, fnB_length]
    omega
set_option maxRecDepth 100000 in
set_option maxHeartbeats 16000000 in
theorem size_c (w : World) (G : Nat → Prop) (A : Option Addr) (ni ci : Nat) (X : Nat → Ins) (B : Option Addr) (nf cf : Nat) (Fs : Nat → Fn) (m : Int) (hi : IL w G A ni X) (hci : ni ≤ ci) (hf : FL w G B nf Fs) (hcf : nf ≤ cf) (hm : i64in m) (hnf : nf ≤ 1000000) (hni : ni ≤ 300000000) (hnm : ∀ k, k < nf → (Fs k).name.size ≤ 64) :
    Calls Try.prog 25 #[codeV A ni ci B nf cf m] w fun e w' => e = .returned (.int .i64 ((enc ni X nf Fs m).length : Nat)) ∧ Below w.heap.size w w' := by
  have S0 := Lib.hid (DS.start hi hf #[.slice A ni ci, .slice B nf cf, .int .i64 m])
  have HF := Lib.hid (fun k hk => fnsB_le Fs k (fun j hj => hnm j (by have : k ≤ nf := hk; omega)))
  have HI := Lib.hid (inssB_le X)
  have HNM := Lib.hid hnm
  have EL := Lib.hid (enc_length ni X nf Fs m)
  obtain ⟨m1, m2⟩ := hm
  clear hi hf hnm
  unfold codeV
  go_enter Try.func25, Try.ntmps25
  go_wp2_with fail
  go_loopw [3, 14] (fun nx kv wx => ∃ k : Nat, k ≤ nf ∧ kv = .int .i64 (k : Int) ∧ (∃ s : Nat, nx = .int .i64 (s : Int) ∧ s = 12 + (fnsB Fs k).length) ∧ Hid (DS w wx G A ni X B nf Fs #[.slice A ni ci, .slice B nf cf, .int .i64 m])) (fun _ kv _ => nf - (intOf kv).toNat)
  case atStart => exact ⟨0, by omega, rfl, ⟨12, rfl, rfl⟩, S0⟩
  case round =>
    clear S0
    obtain ⟨k, hk, rfl, ⟨s, rfl, hs⟩, S⟩ := hrel
    have hsb := HF.out k hk
    have hsl : s ≤ 100000000 := by omega
    clear hsb
    by_cases hlt : k < nf
    · obtain ⟨hin, hsz, b, off, rfl, _, hbl, k0, k1, k2, k3, k4⟩ := S.out.fl.2 k hlt
      have S2 := Lib.hid (S.out.only ((Only.refl (fun _ => False) wr).alloc (.cells #[.string (Fs k).name, .int .i64 (Fs k).frame, .int .i64 (Fs k).first, .int .i64 (Fs k).count, .int .i64 (Fs k).params] 53)))
      have hz := HNM.out k hlt
      have HS : Hid (s + (14 + (Fs k).name.size) = 12 + (fnsB Fs (k + 1)).length) := by
        show s + (14 + (Fs k).name.size) = 12 + (fnsB Fs (k + 1)).length
        rw [fnsB, List.length_append, fnB_length]; omega
      clear HF HI HNM EL hs
      go_wp2_with fail
      go_roundw
      case rel => exact ⟨k + 1, by omega, by go_num, ⟨s + (14 + (Fs k).name.size), by go_num, HS⟩, S2⟩
      case measure => first | (simp [intOf]; done) | (simp [intOf]; omega)
    · have hkn : k = nf := by omega
      subst hkn
      have cA : wr.cell? ⟨w.heap.size, 0, none⟩ = some (.slice A ni ci) := S.out.b1.cell 0
      have hlb := S.out.b1.lt
      go_wp2_with fail
      clear cA hlb
      go_loopw [3, 28] (fun nx kv wx => ∃ j : Nat, j ≤ ni ∧ kv = .int .i64 (j : Int) ∧ (∃ t : Nat, nx = .int .i64 (t : Int) ∧ t = s + (inssB X j).length) ∧ Hid (DS w wx G A ni X B k Fs #[.slice A ni ci, .slice B k cf, .int .i64 m])) (fun _ kv _ => ni - (intOf kv).toNat)
      case atStart => exact ⟨0, by omega, rfl, ⟨s, rfl, rfl⟩, S⟩
      case round =>
        clear S
        obtain ⟨j, hj, rfl, ⟨t, rfl, ht⟩, S⟩ := hrel
        have htb := HI.out j
        have htl : t ≤ 5000000000 := by omega
        clear htb
        by_cases hjt : j < ni
        · obtain ⟨hin, b, off, rfl, _, hbl, k0, k1, k2, k3, k4⟩ := S.out.il.2 j hjt
          have UC := Lib.hid (fun w' => shape_c (X j).op hin.op w')
          obtain ⟨q1, q2, q3⟩ := shape_cases (X j).op
          have S2 := Lib.hid (S.out.only ((Only.refl (fun _ => False) wr).alloc (.cells #[.int .i64 (X j).op, .int .i64 (X j).a, .int .i64 (X j).b, .int .i64 (X j).c, .int .i64 (X j).n] 41)))
          have HS : Hid (t + (insB (X j)).length = s + (inssB X (j + 1)).length) := by
            show t + (insB (X j)).length = s + (inssB X (j + 1)).length
            rw [inssB, List.length_append]; omega
          rw [insB_length] at HS
          rw [q1, q3] at UC
          clear HF HI HNM EL hs ht q1 q3
          generalize regsOf (X j).op = r at *
          have hr : r ≤ 3 := q2
          cases hw : wideOf (X j).op with
          | true =>
            rw [hw] at HS UC
            go_wp2_with (first
              | (go_at_call 27; refine (UC.out _).mono ?_; rintro e w2 ⟨rfl, hw2⟩; subst w2))
            go_roundw
            case rel => exact ⟨j + 1, by omega, by go_num, ⟨t + (1 + r + 8), by go_num, HS⟩, S2⟩
            case measure => first | (simp [intOf]; done) | (simp [intOf]; omega)
          | false =>
            rw [hw] at HS UC
            go_wp2_with (first
              | (go_at_call 27; refine (UC.out _).mono ?_; rintro e w2 ⟨rfl, hw2⟩; subst w2))
            go_roundw
            case rel => exact ⟨j + 1, by omega, by go_num, ⟨t + (1 + r + 0), by go_num, HS⟩, S2⟩
            case measure => first | (simp [intOf]; done) | (simp [intOf]; omega)
        · have hjn : j = ni := by omega
          subst hjn
          have E : Hid (t = (enc j X k Fs m).length) := by show t = (enc j X k Fs m).length; rw [EL.out]; omega
          go_wp2_with fail
          go_ret
          exact ⟨by rw [← E.out]; rfl, S.out.below⟩
end Go.Proofs.Ytafhjpehkfcmjaa
