/- code's reader: what function keeps. -/
import Derived.Test.YtafhjpehkfcmjaaW23
import Derived.Laws.BytesString
import Derived.Laws.Cells
set_option linter.unusedVariables false
set_option linter.unusedSimpArgs false
namespace Go.Proofs.Ytafhjpehkfcmjaa
open Go.RowKit
theorem push_bytes : ∀ (l : List UInt8) (s : ByteArray), ((l.map fun b => (b.toNat : Int)).foldl (fun r n => r.push (UInt8.ofNat n.toNat)) s).data.toList = s.data.toList ++ l
  | [], s => by simp
  | b :: l, s => by
    rw [List.map_cons, List.foldl_cons, push_bytes l]
    have : (s.push (UInt8.ofNat ((b.toNat : Int)).toNat)).data.toList = s.data.toList ++ [b] := by
      show (s.data.push _).toList = _
      rw [Array.toList_push, Int.toNat_natCast, UInt8.ofNat_toNat]
    rw [this, List.append_assoc]; rfl
/-- Bytes that can be read, turned to a string. -/
theorem bytes_string {w : World} {G : Nat → Prop} {D : Option Addr} {n c : Nat} {S : Nat → UInt8} (h : BL w G D n S) (hn : 0 < n) : (convert 28 9 (.slice D n c)).run Try.prog w = .ok (.string (nameOf (slc S 0 n))) w := by
  rw [run_convert_bytes_string w 28 9 5 D n c Try.underlying28 Try.underlying5 Try.underlying9]
  obtain ⟨b, off, rfl, _, _, _⟩ := h 0 hn
  have hl := run_loadCells (P := Try.prog) (w := w) ⟨b, off, none⟩ n (fun j => .int .u8 ((S j).toNat : Int)) (fun j hj => by
    obtain ⟨b', off', e, _, _, hc⟩ := h j hj
    injection e with e
    injection e with e1 e2 _
    subst e1 e2
    rw [Go.WideShapes.add_plain]
    exact hc)
  have e : ((List.range n).map fun j => Value.int .u8 ((S j).toNat : Int)) = ((slc S 0 n).map fun b => (b.toNat : Int)).map (Value.int .u8) := by
    simp [slc]
  rw [e] at hl
  rw [run_bytesToString w ⟨b, off, none⟩ n c ((slc S 0 n).map fun b => (b.toNat : Int)) hl]
  congr 2
  refine name_eq.2 ?_
  rw [push_bytes]
  rfl
theorem SMap.look_all {P : Program} {K E T : TypeId} {w : World} {b n : Nat} {f : List UInt8 → Bool} (h : SMap P K E w b n f) (hT : P.underlying T = some (.map K E)) (hK : P.underlying K = some .string) (hE : P.underlying E = some (.int .i64)) (hz : ∀ w, (zeroValue E).run P w = .ok (.int .i64 0) w) {s : ByteArray} (hs : s.size ≤ maxLen) :
    ∃ c : Int, ∀ k, (Instr.lookup T (.map (some b)) (.string s) true).run P (w.drewN k) = .ok (.tuple #[.int .i64 c, .bool (f s.data.toList)]) (w.drewN k) := by
  obtain ⟨D, h1, h2⟩ := h
  have key : ∀ k, ∃ c : Int, (Instr.lookup T (.map (some b)) (.string s) true).run P (w.drewN k) = .ok (.tuple #[.int .i64 c, .bool (f s.data.toList)]) (w.drewN k) ∧ D.atKey (.string s.data.toList) (.lit (.int .i64 0)) = .lit (.int .i64 c) := by
    intro k
    have h1k : (w.drewN k).ownsMap P K (plainElem P E) b n D := h1
    obtain ⟨v, ps, hrun, hv⟩ := h1k.look_ok (t := T) (Maps.string_keyed hK) hT (hz _) (plainElem_int hE (by decide)) (WideMaps.keyOf_string_mk hK hs)
    obtain ⟨c, rfl, hc, _⟩ := plainElem_int_inv hE hv
    rw [h2] at hrun
    simp only [Prod.mk.injEq] at hc
    exact ⟨c, hrun, hc.1⟩
  obtain ⟨c, _, hc⟩ := key 0
  refine ⟨c, fun k => ?_⟩
  obtain ⟨c', hr, hc'⟩ := key k
  rw [hc] at hc'
  injection hc' with hc'
  injection hc' with _ hc'
  rw [hc']
  exact hr
/-- What function keeps: the reader, and the head that it fills. -/
structure FT (w0 w : World) (H : Nat) (G : Nat → Prop) (A : Option Addr) (L c : Nat) (Bf : Nat → UInt8) (r mb : Nat) (iv fv : Value) (xs : List Ins) (fs : List Fn) (mn : Nat) (mf : List UInt8 → Bool) (p : Nat) (bad : Bool) (m : Int) (g : Nat) (ff : Array Value) : Prop where
  rm : RM w H G A L c Bf r mb iv fv xs fs mn mf p bad m
  fb : Blk w g 53 ff
  ne : fv.ownBlock ≠ some g
  bw : Below H w0 w
  hg : H ≤ g
section
variable {w0 w w' : World} {H : Nat} {G : Nat → Prop} {A : Option Addr} {L c : Nat} {Bf : Nat → UInt8} {r mb : Nat} {iv fv : Value} {xs : List Ins} {fs : List Fn} {mn : Nat} {mf : List UInt8 → Bool} {p p' : Nat} {bad bad' : Bool} {m m' : Int} {g : Nat} {ff ff' : Array Value}
theorem FT.turn (hG : ∀ b, G b → b < H) (h : FT w0 w H G A L c Bf r mb iv fv xs fs mn mf p bad m g ff) (o : Only (fun b => b = r) w w') (hb : Blk w' r 67 (rcells (.slice A L c) p' bad' iv fv m' mb)) : FT w0 w' H G A L c Bf r mb iv fv xs fs mn mf p' bad' m' g ff := by
  have hr := h.rm.hr
  have hlt := h.rm.b.lt
  exact ⟨h.rm.turn hG o hb, h.fb.only o (fun e => Blk.ne_ h.fb h.rm.b (by decide) e), h.ne, h.bw.trans (o.toBelow (by omega) fun k hk e => by omega), h.hg⟩
theorem FT.quiet (h : FT w0 w H G A L c Bf r mb iv fv xs fs mn mf p bad m g ff) (o : Only (fun _ => False) w w') : FT w0 w' H G A L c Bf r mb iv fv xs fs mn mf p bad m g ff := by
  have hg := h.hg
  have hlt := h.fb.lt
  exact ⟨h.rm.quiet o, h.fb.only o (fun h => h), h.ne, h.bw.trans (o.toBelow (by omega) fun _ _ h => h), h.hg⟩
theorem FT.box (h : FT w0 w H G A L c Bf r mb iv fv xs fs mn mf p bad m g ff) (o : Only (fun b => b = g) w w') (hG : ∀ b, G b → b < H) (hb : Blk w' g 53 ff') : FT w0 w' H G A L c Bf r mb iv fv xs fs mn mf p bad m g ff' := by
  have hg := h.hg
  have hlt := h.fb.lt
  have hm := h.rm
  refine ⟨⟨hm.b.only o (fun e => Blk.ne_ h.fb hm.b (by decide) e.symm), hm.bl.only o (fun b _ hb e => by have := hG b hb; omega), own_only hm.im o (fun b hb e => own_blk_ne hm.im h.fb (by decide) (e ▸ hb)), own_only hm.fm o (fun b hb e => h.ne (e ▸ hb)), hm.mp.only o (fun e => hm.mp.ne_blk h.fb e), hm.hr, hm.hmb⟩, hb, h.ne, h.bw.trans (o.toBelow (by omega) fun k hk e => by omega), h.hg⟩
theorem FT.put (h : FT w0 w H G A L c Bf r mb iv fv xs fs mn mf p bad m g ff) (hG : ∀ b, G b → b < H) (j : Nat) (u : Value) : FT w0 (w.setCell ⟨g, j, none⟩ u) H G A L c Bf r mb iv fv xs fs mn mf p bad m g (ff.setIfInBounds j u) :=
  h.box ((Only.refl (fun b => b = g) w).setCell (.inl rfl) u) hG (h.fb.set_ j u)
theorem FT.number (hG : ∀ b, G b → b < H) (h : FT w0 w H G A L c Bf r mb iv fv xs fs mn mf p bad m g ff) (hp : p ≤ L) (hL : L ≤ 300000000) (hc : L ≤ c) (hc2 : c ≤ 9223372036854775807) {n lo hi : Nat} (hn : 1 ≤ n) (hn2 : n ≤ 8) (hlo : lo < 18446744073709551616) (hhi : hi < 18446744073709551616) {ni li hi' : Int} (e1 : ni = (n : Int)) (e2 : li = (lo : Int)) (e3 : hi' = (hi : Int)) :
    Calls Try.prog 28 #[.pointer (some ⟨r, 0, none⟩), .int .i64 ni, .int .u64 li, .int .u64 hi'] w fun e w' => ∃ v p' bad', e = .returned (.int .i64 v) ∧ i64in v ∧ FT w0 w' H G A L c Bf r mb iv fv xs fs mn mf p' bad' m g ff ∧ p' ≤ L ∧ NumR Bf L n lo hi p bad p' bad' v := by
  subst e1 e2 e3
  refine (rdnumber_c w G A L c Bf r iv fv m mb p bad n lo hi h.rm.b h.rm.bl (h.rm.gr hG) hp hL hc hc2 hn hn2 hlo hhi).mono ?_
  rintro e w' ⟨v, p', bad', rfl, hv, hb, ho, hR⟩
  exact ⟨v, p', bad', rfl, hv, h.turn hG ho hb, hR.le hp, hR⟩
theorem FT.field (hG : ∀ b, G b → b < H) (h : FT w0 w H G A L c Bf r mb iv fv xs fs mn mf p bad m g ff) (hp : p ≤ L) (hL : L ≤ 300000000) (hc : L ≤ c) (hc2 : c ≤ 9223372036854775807) {n : Nat} (hn : 1 ≤ n) (hn2 : n ≤ 64) :
    Calls Try.prog 39 #[.pointer (some ⟨r, 0, none⟩), .int .i64 (n : Int)] w fun e w' => ∃ D S p' bad', e = .returned (.slice D n n) ∧ FT w0 w' H G A L c Bf r mb iv fv xs fs mn mf p' bad' m g ff ∧ p' ≤ L ∧ BL w' (fun b => b ≠ r) D n S ∧
      ((bad = true ∧ bad' = true ∧ p' = p) ∨ (bad = false ∧ L < p + n ∧ bad' = true ∧ p' = L) ∨ (bad = false ∧ p + n ≤ L ∧ bad' = false ∧ p' = p + n ∧ ∀ i, i < n → S i = Bf (p + i))) := by
  refine (rdfield_c w G A L c Bf r iv fv m mb p bad n h.rm.b h.rm.bl (h.rm.gr hG) hp hL hc hc2 hn hn2).mono ?_
  rintro e w' ⟨D, S, p', bad', rfl, hb, ho, hD, hR⟩
  exact ⟨D, S, p', bad', rfl, h.turn hG ho hb, by rcases hR with ⟨_, _, rfl⟩ | ⟨_, _, _, rfl⟩ | ⟨_, h, _, rfl, _⟩ <;> omega, hD, hR⟩
theorem FT.mput (h : FT w0 w H G A L c Bf r mb iv fv xs fs mn mf p bad m g ff) (hG : ∀ b, G b → b < H) {mn' : Nat} {mf' : List UInt8 → Bool} (hm : SMap Try.prog 9 3 w' mb mn' mf') (hg : w.grownBy w' (some mb)) : FT w0 w' H G A L c Bf r mb iv fv xs fs mn' mf' p bad m g ff := by
  have o : Only (fun b => b = mb) w w' := (Only.refl _ _).grown hg fun j hj => .inl (by injection hj with hj; exact hj.symm)
  have hmb := h.rm.hmb
  have hlt := h.rm.mp.lt
  have hr := h.rm
  refine ⟨⟨hr.b.only o (fun e => hr.mp.ne_blk hr.b e.symm), hr.bl.only o (fun b _ hb e => by have := hG b hb; omega), own_only hr.im o (fun b hb e => hr.mp.ne_own hr.im (e ▸ hb)), own_only hr.fm o (fun b hb e => hr.mp.ne_own hr.fm (e ▸ hb)), hm, hr.hr, hr.hmb⟩, h.fb.only o (fun e => hr.mp.ne_blk h.fb e.symm), h.ne, h.bw.trans (o.toBelow (by omega) fun k hk e => by omega), h.hg⟩
/-- The reader stands at a place, at fault. -/
theorem FT.fault (hG : ∀ b, G b → b < H) (h : FT w0 w H G A L c Bf r mb iv fv xs fs mn mf p bad m g ff) (q : Nat) : FT w0 ((w.setCell ⟨r, 1, none⟩ (.int .i64 (q : Int))).setCell ⟨r, 2, none⟩ (.bool true)) H G A L c Bf r mb iv fv xs fs mn mf q true m g ff :=
  h.turn hG (((Only.refl (fun b => b = r) w).setCell (.inl rfl) _).setCell (.inl rfl) _) ((h.rm.b.set_ 1 _).set_ 2 _)
end
end Go.Proofs.Ytafhjpehkfcmjaa
