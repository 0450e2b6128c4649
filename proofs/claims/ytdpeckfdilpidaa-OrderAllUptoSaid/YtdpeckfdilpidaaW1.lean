/- order.Line's closure: how its variables stand, and what a visit makes of them. -/
import Derived.Test.YtdpeckfdilpidaaPlain
import Derived.Deep.RegionLaw
import Derived.Deep.RegionHeld3
import Derived.Deep.DrawnRows
import Derived.Deep.QuietTactic
import Derived.WalkKit
import Derived.BigQuiet
import Derived.KernelRfl
import Derived.Lib.Hide
import Derived.Deep.DeepMust
set_option linter.unusedVariables false
set_option linter.unusedSimpArgs false
namespace Go.Proofs.Ytdpeckfdilpidaa
open Go.RowKit
attribute [local go_sem ↓] Go.wp_at_zero Go.wp_at_succ
theorem info3 : (Try.prog.info? 3).map (fun i => (i.zero, i.size, i.bytes)) = some (some (.int .i64 0), 1, 8) := by kernel_rfl
theorem info41 : (Try.prog.info? 41).map (fun i => (i.zero, i.size, i.bytes)) = some (some (.agg #[.int .i64 0, .int .i64 0]), 2, 16) := by kernel_rfl
def pairs : List (Nat × Nat) → List Value
  | [] => []
  | (b, l) :: r => .int .i64 (b : Int) :: .int .i64 (l : Int) :: pairs r
theorem pairs_append : ∀ a b : List (Nat × Nat), pairs (a ++ b) = pairs a ++ pairs b
  | [], b => rfl
  | (x, y) :: r, b => by simp [pairs, pairs_append r b]
theorem pairs_length : ∀ a : List (Nat × Nat), (pairs a).length = a.length * 2
  | [] => rfl
  | (x, y) :: r => by simp [pairs, pairs_length r]; omega
def bools (len : Nat) (f : Nat → Bool) : Array Value := ((List.range len).map fun k => Value.bool (f k)).toArray
theorem bools_get (len : Nat) (f : Nat → Bool) {k : Nat} (h : k < len) : (bools len f)[k]? = some (.bool (f k)) := by simp [bools, h]
theorem bools_set (len : Nat) (f : Nat → Bool) {k : Nat} (h : k < len) : (bools len f).setIfInBounds k (.bool true) = bools len (fun j => if j = k then true else f j) := by
  apply Array.ext_getElem?
  intro i
  rw [Array.getElem?_setIfInBounds]
  by_cases hi : i < len
  · rw [bools_get len _ hi]
    by_cases he : k = i
    · subst he; simp [bools, h]
    · rw [if_neg he, bools_get len _ hi, if_neg (Ne.symm he)]
  · have h1 : ∀ g : Nat → Bool, (bools len g)[i]? = none := fun g => by simp [bools]; omega
    rw [h1, h1, if_neg (by omega)]
/-- The variables of Line: 'to' at t1, seen at s7 (its row at sb), open at o8. -/
structure LM (w : World) (G FO : Nat → Prop) (A : Option Addr) (len cap : Nat) (X : Nat → List Int) (t1 s7 sb o8 : Nat) (ov : Value) (s : DS) : Prop where
  to_ : Blk w t1 22 #[.slice A len cap]
  rl : RLL w G A len X
  seenB : Blk w s7 32 #[.slice (some ⟨sb, 0, none⟩) len len]
  seen : Blk w sb 4 (bools len s.seen)
  opB : Blk w o8 39 #[ov]
  op : Row w FO 41 2 ov s.op.length (pairs s.op)
  gG : ∀ b, G b → b ≠ t1 ∧ b ≠ s7 ∧ b ≠ sb ∧ b ≠ o8 ∧ ¬ FO b
def Touch (sb o8 : Nat) (ov : Value) (b : Nat) : Prop := b = sb ∨ b = o8 ∨ ov.ownBlock = some b
def VisitPost (w : World) (G FO : Nat → Prop) (A : Option Addr) (len cap : Nat) (X : Nat → List Int) (t1 s7 sb o8 : Nat) (ov : Value) (s : DS) (b : Nat) (e : Ending) (w' : World) : Prop :=
  e = .returned (.tuple #[]) ∧ ∃ ov', LM w' G (fun k => (FO k ∨ w.heap.size ≤ k) ∧ k < w'.heap.size) A len cap X t1 s7 sb o8 ov' (s.visit X b) ∧ Only (Touch sb o8 ov) w w'
theorem alloc_at_set (w : World) (p : Addr) (u : Value) (o : Obj) : ((w.setCell p u).alloc o).heap[w.heap.size]? = some o := by
  have h := heap_alloc_new (w.setCell p u) o
  rwa [show (w.setCell p u).heap.size = w.heap.size by simp [World.setCell]] at h
theorem LM.visited {w w2 : World} {G FO : Nat → Prop} {A : Option Addr} {len cap : Nat} {X : Nat → List Int} {t1 s7 sb o8 : Nat} {ov v1 : Value} {s : DS} (h : LM w G FO A len cap X t1 s7 sb o8 ov s) (hG : ∀ k, G k → k < w.heap.size) {b : Nat} (hb : b < len) (hsn : s.seen b = false) {ob : Obj}
    (hown : w2.ownsRow 0 41 2 v1 (s.op.length + 1) (pairs s.op ++ [.int .i64 (b : Int), .int .i64 ((X b).length : Int)])) (hg : ((w.setCell ⟨sb, b, none⟩ (.bool true)).alloc ob).drew.grownBy w2 ov.ownBlock) (hat : v1.ownBlock = ov.ownBlock ∨ ∃ k, v1.ownBlock = some k ∧ w.heap.size ≤ k) :
    LM (w2.setCell ⟨o8, 0, none⟩ v1) G (fun k => (FO k ∨ w.heap.size ≤ k) ∧ k < (w2.setCell ⟨o8, 0, none⟩ v1).heap.size) A len cap X t1 s7 sb o8 v1 (s.visit X b) ∧ Only (Touch sb o8 ov) w (w2.setCell ⟨o8, 0, none⟩ v1) := by
  have o1 : Only (fun k => k = sb) w ((w.setCell ⟨sb, b, none⟩ (.bool true)).alloc ob).drew := (((Only.refl (fun k => k = sb) w).setCell (p := ⟨sb, b, none⟩) (.inl rfl) _).alloc ob).drew
  have o2 : Only (fun k => ov.ownBlock = some k) ((w.setCell ⟨sb, b, none⟩ (.bool true)).alloc ob).drew w2 := (Only.refl _ _).grown hg fun k hk => .inl hk
  have o3 : Only (fun k => k = o8) w2 (w2.setCell ⟨o8, 0, none⟩ v1) := (Only.refl (fun k => k = o8) w2).setCell (p := ⟨o8, 0, none⟩) (.inl rfl) _
  have s1 := o1.size
  have s2 := o2.size
  have s3 := o3.size
  have oA : Only (Touch sb o8 ov) w (w2.setCell ⟨o8, 0, none⟩ v1) := ((o1.mono fun k _ e => .inl e).trans o2 fun k _ e => .inr (.inr e)).trans o3 fun k _ e => .inr (.inl e)
  have n1 : t1 ≠ sb := h.to_.ne_ h.seen (by decide)
  have n2 : t1 ≠ o8 := h.to_.ne_ h.opB (by decide)
  have n3 : s7 ≠ sb := h.seenB.ne_ h.seen (by decide)
  have n4 : s7 ≠ o8 := h.seenB.ne_ h.opB (by decide)
  have n5 : sb ≠ o8 := h.seen.ne_ h.opB (by decide)
  have b1 : ov.ownBlock ≠ some t1 := own_blk_ne h.op.1 h.to_ (by decide)
  have b2 : ov.ownBlock ≠ some s7 := own_blk_ne h.op.1 h.seenB (by decide)
  have b3 : ov.ownBlock ≠ some sb := own_blk_ne h.op.1 h.seen (by decide)
  have b4 : ov.ownBlock ≠ some o8 := own_blk_ne h.op.1 h.opB (by decide)
  have hO2 : Blk w2 o8 39 #[ov] := (h.opB.only o1 (fun e => n5 e.symm)).only o2 b4
  have hv1 (k : Nat) (hk : v1.ownBlock = some k) : FO k ∨ w.heap.size ≤ k := by
    rcases hat with e | ⟨k', e, hk'⟩
    · exact .inl (h.op.2 k (by rw [← e]; exact hk))
    · rw [e] at hk; injection hk with hk; subst hk; exact .inr hk'
  have hrow : Row w2 (fun k => (FO k ∨ w.heap.size ≤ k) ∧ k < (w2.setCell ⟨o8, 0, none⟩ v1).heap.size) 41 2 v1 (s.op.length + 1) (pairs (s.op ++ [(b, (X b).length)])) :=
    ⟨by rw [pairs_append]; exact hown, fun k hk => ⟨hv1 k hk, Nat.lt_of_lt_of_le (hown.lt k hk).2 s3⟩⟩
  rw [DS.visit_yes hsn]
  refine ⟨⟨h.to_.only oA ?_, h.rl.only oA fun k hk hg' hf => ?_, h.seenB.only oA ?_, ?_, ?_, ?_, fun k hk => ?_⟩, oA⟩
  · rintro (e | e | e)
    · exact n1 e
    · exact n2 e
    · exact b1 e
  · obtain ⟨a1, a2, a3, a4, a5⟩ := h.gG k hg'
    rcases hf with e | e | e
    · exact a3 e
    · exact a4 e
    · exact a5 (h.op.2 k e)
  · rintro (e | e | e)
    · exact n3 e
    · exact n4 e
    · exact b2 e
  · have k1 : Blk (w.setCell ⟨sb, b, none⟩ (.bool true)) sb 4 _ := h.seen.set_ b (.bool true)
    rw [bools_set len s.seen hb] at k1
    exact (((k1.alloc ob).drew).only o2 b3).only o3 n5
  · have := hO2.set_ 0 v1
    simpa using this
  · show Row _ _ 41 2 v1 (s.op ++ [(b, (X b).length)]).length _
    rw [List.length_append]
    exact hrow.far (p := ⟨o8, 0, none⟩) (own_blk_ne hrow.1 hO2 (by decide)) v1
  · obtain ⟨a1, a2, a3, a4, a5⟩ := h.gG k hk
    exact ⟨a1, a2, a3, a4, fun hf => hf.1.elim a5 fun h1 => by have := hG k hk; omega⟩
set_option maxRecDepth 100000 in
set_option maxHeartbeats 4000000 in
theorem visit_c (w : World) (G FO : Nat → Prop) (A : Option Addr) (len cap : Nat) (X : Nat → List Int) (t1 s7 sb o8 : Nat) (ov : Value) (s : DS) (h : LM w G FO A len cap X t1 s7 sb o8 ov s) (hG : ∀ k, G k → k < w.heap.size) (b : Nat) (hb : b < len) (hs : s.op.length < 300000) :
    Calls Try.prog 20 #[.int .i64 (b : Int), .pointer (some ⟨s7, 0, none⟩), .pointer (some ⟨o8, 0, none⟩), .pointer (some ⟨t1, 0, none⟩)] w (VisitPost w G FO A len cap X t1 s7 sb o8 ov s b) := by
  have c7 : w.cell? ⟨s7, 0, none⟩ = some (.slice (some ⟨sb, 0, none⟩) len len) := h.seenB.cell 0
  have cs : w.cell? ⟨sb, b, none⟩ = some (.bool (s.seen b)) := (h.seen.cell b).trans (bools_get len s.seen hb)
  have c8 : w.cell? ⟨o8, 0, none⟩ = some ov := h.opB.cell 0
  have c1 : w.cell? ⟨t1, 0, none⟩ = some (.slice A len cap) := h.to_.cell 0
  cases hsn : s.seen b with
  | true =>
    have E : Hid (VisitPost w G FO A len cap X t1 s7 sb o8 ov s b (.returned (.tuple #[])) w) :=
      ⟨rfl, ov, by rw [DS.visit_no hsn]; exact ⟨h.to_, h.rl, h.seenB, h.seen, h.opB, h.op.mono fun k hk hf => ⟨.inl hf, hk⟩, fun k hk => let ⟨a, b, c, d, e⟩ := h.gG k hk; ⟨a, b, c, d, fun hf => hf.1.elim e fun h1 => by have := hG k hk; omega⟩⟩, Only.refl _ _⟩
    rw [hsn] at cs
    clear h hG hs hsn
    go_enter Try.func20, Try.ntmps20
    go_wp2_with fail
    go_end0
    exact E.out
  | false =>
    obtain ⟨bb, off, Ak, ck, rfl, hGb, hbl, ck0, hRL⟩ := h.rl.at_ b hb
    have H := Lib.hid h
    have HS := Lib.hid hsn
    have HGk := Lib.hid hG
    rw [hsn] at cs
    obtain ⟨_, _, g3, g4, g5⟩ := h.gG bb hGb
    have g5' := Lib.hid g5
    have n1 : t1 ≠ sb := h.to_.ne_ h.seen (by decide)
    have n5 : sb ≠ o8 := h.seen.ne_ h.opB (by decide)
    have f8 : w.frozen? ⟨o8, 0, none⟩ = false := h.opB.frozen 0
    have hol : o8 < w.heap.size := h.opB.lt
    have b4 : Hid (ov.ownBlock ≠ some o8) := own_blk_ne h.op.1 h.opB (by decide)
    have RR : Hid ((w.setCell ⟨sb, b, none⟩ (.bool true)).ownsRow 0 41 2 ov s.op.length (pairs s.op)) := (h.op.far (p := ⟨sb, b, none⟩) (own_blk_ne h.op.1 h.seen (by decide)) _).1
    have hXL := hRL.1
    have FX : Hid ((w.setCell ⟨sb, b, none⟩ (.bool true)).frozen? ⟨o8, 0, none⟩ = false) := (h.opB.far (p := ⟨sb, b, none⟩) (Ne.symm n5) _).frozen 0
    clear h hG hsn hRL g5
    have fs : w.frozen? ⟨sb, b, none⟩ = false := H.out.seen.frozen b
    obtain ⟨i1, hI, hz0, hz1, hz2⟩ := info_parts info41
    have HI := Lib.hid hI
    have HZ0 := Lib.hid hz0
    have HZ1 := Lib.hid hz1
    have HZ2 := Lib.hid hz2
    clear hI hz0 hz1 hz2
    have HE := Lib.hid (fun (w2 : World) (gg cap1 : Nat) (hown) (hg) (hat) => H.out.visited HGk.out hb HS.out (w2 := w2) (v1 := .slice (some ⟨gg, 0, none⟩) (s.op.length + 1) cap1) (ob := .cells #[.int .i64 (b : Int), .int .i64 ((X b).length : Int)] 41) hown hg hat)
    clear H
    generalize (X b).length = L at *
    go_enter Try.func20, Try.ntmps20
    go_wp2_with fail
    go_region_law
      ((refine step_append_lies _ (by rfl) (.tmp 13) (.tmp 21) 39 (by rfl) 0 41 i1 _ 2 16 Try.underlying39 HI.out HZ0.out HZ1.out HZ2.out rfl (by omega) ov s.op.length (pairs s.op) (by rfl) ((RR.out.drew).alloc _) ⟨w.heap.size, 0, none⟩ 1 1 [.int .i64 (b : Int), .int .i64 (L : Int)] (by rfl) (by rfl) (World.news_of_block (cs := #[.int .i64 (b : Int), .int .i64 (L : Int)]) (t := 41) (fr := (0, 0)) (alloc_at_set _ _ _ _)) (by simp [Value.oneCell']) (by omega) (by unfold maxLen; omega) (by omega) (Nat.zero_le _) (w.heap.size + 1) (by simp [World.setCell]) ?_; intro gg cap1 w1 hown1 hgrow hat hlt; have e0 : w1.cell? ⟨o8, 0, none⟩ = some ov := (by rw [hgrow.cell_far _ (by simp [World.setCell]; omega) (Ne.symm b4.out)]; go_keep); have e2 : w1.frozen? ⟨o8, 0, none⟩ = false := (by rw [hgrow.frozen_far _ (by simp [World.setCell]; omega) (Ne.symm b4.out)]; exact (frozen?_alloc_cells _ _ _ _).trans FX.out)))
    all_goals
      go_wp2_with fail
      go_end0
      exact ⟨rfl, _, HE.out _ gg cap1 hown1 hgrow (hat.imp (fun e => e.symm) (fun e => ⟨gg, rfl, by omega⟩))⟩
end Go.Proofs.Ytdpeckfdilpidaa
