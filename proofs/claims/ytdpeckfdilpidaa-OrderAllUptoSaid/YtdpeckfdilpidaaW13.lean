/- lent: the lists that it makes. -/
import Derived.Test.YtdpeckfdilpidaaW7
import Derived.Test.YtdpeckfdilpidaaApp
set_option linter.unusedVariables false
set_option linter.unusedSimpArgs false
namespace Go.Proofs.Ytdpeckfdilpidaa
open Go.RowKit
attribute [local go_sem ↓] Go.wp_at_zero Go.wp_at_succ
def marks : List Int := [-71, -72, -73]
def shorten (v : Value) (n : Nat) : Value := match v with
  | .slice A _ c => .slice A n c
  | v => v
theorem shorten_own (v : Value) (n : Nat) : (shorten v n).ownBlock = v.ownBlock := by
  cases v <;> first | rfl | (rename_i a _ _; cases a <;> rfl)
/-- While the lists are made: kf of them whole, kl of them shown. -/
structure LNI (w wr : World) (X : Nat → List Int) (fv lv : Value) (kf kl : Nat) (F FL : Nat → Prop) (V : Nat → Value) : Prop where
  full : LL wr F 27 fv kf V (fun j => X j ++ marks)
  l : Row wr FL 27 1 lv kl (heads kl (fun j => shorten (V j) (X j).length))
  dj : ∀ b, F b → ¬ FL b
  ft : ∀ b, F b ∨ FL b → w.heap.size ≤ b ∧ b < wr.heap.size
  below : Below w.heap.size w wr
section
variable {w wr w1 w2 w4 : World} {X : Nat → List Int} {fv lv u v1 : Value} {kf kl k : Nat} {F FL : Nat → Prop} {V : Nat → Value} {obj : Obj}
theorem LNI.start (w : World) (X : Nat → List Int) (V : Nat → Value) : LNI w w X (.slice none 0 0) (.slice none 0 0) 0 0 (fun _ => False) (fun _ => False) V :=
  ⟨LL.empty _ _ _ _ _, by simpa [heads] using Row.nil_ _ _ _ _, fun _ h => h.elim, fun b h => by rcases h with h | h <;> exact h.elim, Below.refl _ _⟩
theorem LNI.later (h : LNI w wr X fv lv kf kl F FL V) (hb : Below wr.heap.size wr w2) : LNI w w2 X fv lv kf kl F FL V :=
  ⟨h.full.only (Only.ofBelow (F := fun _ => False) hb) (fun _ _ _ h => h), h.l.only (Only.ofBelow (F := fun _ => False) hb) (fun _ _ h => h), h.dj, fun b hf => ⟨(h.ft b hf).1, Nat.lt_of_lt_of_le (h.ft b hf).2 hb.size⟩, h.below.trans (hb.mono h.below.size)⟩
/-- A list copied, its marks behind it. -/
theorem LNI.twice (h : LNI w wr X fv lv kf kl F FL V) {l : List Int} {A1 A2 : Option Addr} {L c1 c2 : Nat} {o1 : Obj} (g1 : wr.grownBy w1 (Value.slice none 0 0).ownBlock) (t1 : (Value.slice A1 L c1).ownBlock = (Value.slice none 0 0).ownBlock ∨ (Value.slice A1 L c1).ownBlock = some wr.heap.size)
    (q1 : w1.ownsRow 0 3 1 (.slice A1 L c1) L (nums l)) (g2 : (w1.alloc o1).grownBy w2 (Value.slice A1 L c1).ownBlock) (t2 : (Value.slice A2 (L + 3) c2).ownBlock = (Value.slice A1 L c1).ownBlock ∨ (Value.slice A2 (L + 3) c2).ownBlock = some (w1.heap.size + 1))
    (q2 : w2.ownsRow 0 3 1 (.slice A2 (L + 3) c2) (L + 3) (nums l ++ nums marks)) : LNI w w2 X fv lv kf kl F FL V ∧ Below wr.heap.size wr w2 ∧ Row w2 (fun b => wr.heap.size ≤ b) 3 1 (.slice A2 (L + 3) c2) (l ++ marks).length (nums (l ++ marks)) := by
  have hL : L = l.length := by have := q1.1; simp [nums] at this; omega
  have o1' : Only (fun _ => False) wr w1 := (Only.refl _ wr).grown g1 fun k hk => by simp [Value.ownBlock] at hk
  have o2' : Only (fun k => (Value.slice A1 L c1).ownBlock = some k) w1 w2 := ((Only.refl _ w1).alloc o1).grown g2 fun k hk => .inl hk
  have s1 := o1'.size
  have hA1 : ∀ k, (Value.slice A1 L c1).ownBlock = some k → wr.heap.size ≤ k := fun k hk => by
    rcases t1 with e | e
    · rw [e] at hk; simp [Value.ownBlock] at hk
    · rw [e] at hk; injection hk with hk; omega
  have hb : Below wr.heap.size wr w2 := (o1'.toBelow (Nat.le_refl _) fun _ _ h => h).trans (o2'.toBelow s1 fun k hk hf => by have := hA1 k hf; omega)
  refine ⟨h.later hb, hb, ?_, fun b hb => ?_⟩
  · have e1 : (l ++ marks).length = L + 3 := by rw [List.length_append, hL]; rfl
    rw [e1, ← nums_append]
    exact q2
  · rcases t2 with e | e
    · exact hA1 b (by rw [← e]; exact hb)
    · rw [e] at hb; injection hb with hb; omega
theorem LNI.pushF (h : LNI w wr X fv lv k k F FL V) (hb : Below wr.heap.size wr w2) (hu : Row w2 (fun b => wr.heap.size ≤ b) 3 1 u (X k ++ marks).length (nums (X k ++ marks)))
    (hown : w4.ownsRow 0 27 1 v1 (k + 1) (heads k V ++ [u])) (hg : (w2.alloc obj).grownBy w4 fv.ownBlock) (hat : v1.ownBlock = fv.ownBlock ∨ ∃ j, v1.ownBlock = some j ∧ w2.heap.size ≤ j) :
    ∃ F', LNI w w4 X v1 lv (k + 1) k F' FL (updf V k u) := by
  have h2 := h.later hb
  have hl : LL (w2.alloc obj) F 27 fv k V (fun j => X j ++ marks) := h2.full.only ((Only.refl (fun _ => False) w2).alloc obj) (fun _ _ _ h => h)
  have hu' : Row (w2.alloc obj) (fun b => wr.heap.size ≤ b ∧ b < w2.heap.size) 3 1 u (X k ++ marks).length (nums (X k ++ marks)) := (hu.mono fun b hb hf => ⟨hf, hb⟩).alloc obj
  have hp := hl.pushed (by decide) hu' (fun b hf hF => by have := (h.ft b (.inl hF)).2; omega) hown hg
  have o : Only (fun j => fv.ownBlock = some j) w2 w4 := ((Only.refl _ w2).alloc obj).grown hg fun j hk => .inl hk
  have s1 := o.size
  have s0 := hb.size
  have s2 := h.below.size
  have hv1 (b : Nat) (e : v1.ownBlock = some b) : F b ∨ w2.heap.size ≤ b := by
    rcases hat with e2 | ⟨j, e2, e3⟩
    · exact .inl (h.full.row.2 b (by rw [← e2]; exact e))
    · rw [e] at e2; injection e2 with e2; right; omega
  refine ⟨_, hp.congr (fun j hj => ?_), ?_, fun b hf hl' => ?_, fun b hf => ?_, h2.below.trans (o.toBelow (by omega) fun j hj hf => ?_)⟩
  · by_cases he : j = k
    · subst he; rw [updf_same]
    · rw [updf_other _ _ _ he]
  · have e : heads k (fun j => shorten (updf V k u j) (X j).length) = heads k (fun j => shorten (V j) (X j).length) := by
      unfold heads
      apply List.map_congr_left
      intro a ha
      have := List.mem_range.1 ha
      rw [updf_other _ _ _ (by omega)]
    rw [e]
    exact h2.l.only o fun b hb' hf => h.dj b (h.full.row.2 b hf) (h.l.2 b hb')
  · have := (h.ft b (.inr hl')).2
    rcases hf with e | e | e
    · exact h.dj b e hl'
    · omega
    · rcases hv1 b e with e | e
      · exact h.dj b e hl'
      · omega
  · rcases hf with (e | e | e) | e
    · have := h.ft b (.inl e); omega
    · omega
    · have hlt := (hown.lt b e).2
      rcases hv1 b e with e | e
      · have := h.ft b (.inl e); omega
      · omega
    · have := h.ft b (.inr e); omega
  · have := (h.ft j (.inl (h.full.row.2 j hf))).1; omega
theorem LNI.pushL (h : LNI w wr X fv lv (k + 1) k F FL V)
    (hown : w4.ownsRow 0 27 1 v1 (k + 1) (heads k (fun j => shorten (V j) (X j).length) ++ [shorten (V k) (X k).length])) (hg : (wr.alloc obj).grownBy w4 lv.ownBlock) (hat : v1.ownBlock = lv.ownBlock ∨ ∃ j, v1.ownBlock = some j ∧ wr.heap.size ≤ j) :
    ∃ FL', LNI w w4 X fv v1 (k + 1) (k + 1) F FL' V := by
  have o : Only (fun j => lv.ownBlock = some j) wr w4 := ((Only.refl _ wr).alloc obj).grown hg fun j hk => .inl hk
  have s1 := o.size
  have s2 := h.below.size
  have hv1 (b : Nat) (e : v1.ownBlock = some b) : FL b ∨ wr.heap.size ≤ b := by
    rcases hat with e2 | ⟨j, e2, e3⟩
    · exact .inl (h.l.2 b (by rw [← e2]; exact e))
    · rw [e] at e2; injection e2 with e2; right; omega
  refine ⟨fun b => (FL b ∨ wr.heap.size ≤ b) ∧ b < w4.heap.size, h.full.only o (fun b _ hF hf => h.dj b hF (h.l.2 b hf)), ⟨?_, fun b hb => ⟨hv1 b hb, (hown.lt b hb).2⟩⟩, fun b hF hL => ?_, fun b hf => ?_, h.below.trans (o.toBelow (by omega) fun j hj hf => ?_)⟩
  · have e : heads (k + 1) (fun j => shorten (V j) (X j).length) = heads k (fun j => shorten (V j) (X j).length) ++ [shorten (V k) (X k).length] := by
      simp [heads, List.range_succ]
    rw [e]; exact hown
  · rcases hL.1 with e | e
    · exact h.dj b hF e
    · have := (h.ft b (.inl hF)).2; omega
  · rcases hf with e | ⟨e | e, e2⟩
    · have := h.ft b (.inl e); omega
    · have := h.ft b (.inr e); omega
    · omega
  · have := (h.ft j (.inr (h.l.2 j hf))).1; omega
end
/-- What lent gives: the shown lists at lb (two more stand behind them), the whole ones at fv. -/
structure Lent (w : World) (B : Nat) (X : Nat → List Int) (n lb lc : Nat) (fv : Value) (F FL : Nat → Prop) (V : Nat → Value) (b4 b5 : Nat) : Prop where
  full : LL w F 27 fv n V (fun j => X j ++ marks)
  l : Row w FL 27 1 (.slice (some ⟨lb, 0, none⟩) (n + 2) lc) (n + 2) (heads n (fun j => shorten (V j) (X j).length) ++ [.slice (some ⟨b4, 0, none⟩) 1 1, .slice (some ⟨b5, 0, none⟩) 1 1])
  m4 : Blk w b4 3 #[.int .i64 (-74)]
  m5 : Blk w b5 3 #[.int .i64 (-75)]
  dj : ∀ b, F b → ¬ FL b
  n4 : ¬ F b4 ∧ ¬ FL b4
  n5 : ¬ F b5 ∧ ¬ FL b5
  ft : ∀ b, (F b ∨ FL b ∨ b = b4 ∨ b = b5) → B ≤ b ∧ b < w.heap.size
def LentPost (w : World) (n : Nat) (X : Nat → List Int) (e : Ending) (w' : World) : Prop :=
  ∃ lb lc fv F FL V b4 b5, e = .returned (.tuple #[.slice (some ⟨lb, 0, none⟩) n lc, fv]) ∧ n + 2 ≤ lc ∧ Lent w' w.heap.size X n lb lc fv F FL V b4 b5 ∧ Below w.heap.size w w'
theorem Lent.later {w w2 : World} {B : Nat} {X : Nat → List Int} {n lb lc : Nat} {fv : Value} {F FL : Nat → Prop} {V : Nat → Value} {b4 b5 : Nat} (h : Lent w B X n lb lc fv F FL V b4 b5) (hb : Below w.heap.size w w2) : Lent w2 B X n lb lc fv F FL V b4 b5 :=
  ⟨h.full.only (Only.ofBelow (F := fun _ => False) hb) (fun _ _ _ h => h), h.l.only (Only.ofBelow (F := fun _ => False) hb) (fun _ _ h => h), h.m4.below hb h.m4.lt, h.m5.below hb h.m5.lt, h.dj, h.n4, h.n5, fun b hf => ⟨(h.ft b hf).1, Nat.lt_of_lt_of_le (h.ft b hf).2 hb.size⟩⟩
/-- The shown lists can be read. -/
theorem Lent.reads {w : World} {B : Nat} {X : Nat → List Int} {n lb lc : Nat} {fv : Value} {F FL : Nat → Prop} {V : Nat → Value} {b4 b5 : Nat} (h : Lent w B X n lb lc fv F FL V b4 b5) (hn : n ≤ 1000000) (hX : ∀ k, k < n → (X k).length ≤ 1000000 ∧ ∀ i, i < (X k).length → i64in ((X k).getD i 0)) :
    RLL w (fun b => b < w.heap.size) (some ⟨lb, 0, none⟩) n X := by
  refine ⟨by omega, fun k hk => ?_⟩
  have hr := h.full.rows k hk
  obtain ⟨g, cap, hV, hF, hlt, hc⟩ := hr.form (by simp [marks])
  have hlb := h.l.lt (b := lb) rfl
  have hc0 := h.l.cell (i := k) (u := shorten (V k) (X k).length) (by rw [List.getElem?_append_left (by simpa [heads] using hk), heads_get n _ hk])
  rw [hV] at hc0
  refine ⟨lb, 0, some ⟨g, 0, none⟩, cap, rfl, hlb, hlb, by rw [Nat.zero_add]; exact hc0, by have := (hX k hk).1; omega, fun i hi => ⟨(hX k hk).2 i hi, g, 0, rfl, hlt, hlt, ?_⟩⟩
  rw [hV] at hr
  rw [Nat.zero_add]
  have := hr.cell (nums_get (X k ++ marks) i (by rw [List.length_append]; omega))
  rw [this, List.getD_eq_getElem?_getD, List.getElem?_append_left hi, ← List.getD_eq_getElem?_getD]
theorem LNI.finish {w wr w6 : World} {X : Nat → List Int} {fv lv : Value} {n : Nat} {F FL : Nat → Prop} {V : Nat → Value} (h : LNI w wr X fv lv n n F FL V) {lb lc : Nat} {obj : Obj}
    (hown : w6.ownsRow 0 27 1 (.slice (some ⟨lb, 0, none⟩) (n + 2) lc) (n + 2) (heads n (fun j => shorten (V j) (X j).length) ++ [.slice (some ⟨wr.heap.size, 0, none⟩) 1 1, .slice (some ⟨wr.heap.size + 1, 0, none⟩) 1 1]))
    (hg : (((wr.alloc (.cells #[.int .i64 (-74)] 3)).alloc (.cells #[.int .i64 (-75)] 3)).alloc obj).grownBy w6 lv.ownBlock) (hat : lv.ownBlock = some lb ∨ wr.heap.size + 3 ≤ lb) :
    ∃ FL', Lent w6 w.heap.size X n lb lc fv F FL' V wr.heap.size (wr.heap.size + 1) ∧ Below w.heap.size w w6 := by
  have z1 : (wr.alloc (.cells #[.int .i64 (-74)] 3)).heap.size = wr.heap.size + 1 := by simp
  have z2 : ((wr.alloc (.cells #[.int .i64 (-74)] 3)).alloc (.cells #[.int .i64 (-75)] 3)).heap.size = wr.heap.size + 1 + 1 := by simp
  have o : Only (fun j => lv.ownBlock = some j) wr w6 := (((Only.refl _ wr).alloc _).alloc _).alloc obj |>.grown hg fun j hk => .inl hk
  have b4 : Blk (((wr.alloc (.cells #[.int .i64 (-74)] 3)).alloc (.cells #[.int .i64 (-75)] 3)).alloc obj) wr.heap.size 3 #[.int .i64 (-74)] := ((Blk.new wr 3 _).alloc _).alloc _
  have b5 : Blk (((wr.alloc (.cells #[.int .i64 (-74)] 3)).alloc (.cells #[.int .i64 (-75)] 3)).alloc obj) (wr.heap.size + 1) 3 #[.int .i64 (-75)] := by
    have := Blk.new (wr.alloc (.cells #[.int .i64 (-74)] 3)) 3 #[.int .i64 (-75)]
    rw [z1] at this; exact this.alloc _
  have hlv (b : Nat) (e : lv.ownBlock = some b) : b < wr.heap.size := (h.ft b (.inr (h.l.2 b e))).2
  have hl6 := (hown.lt lb rfl).2
  have s6 := o.size
  have sB := h.below.size
  have s7 := b5.only (F := fun j => lv.ownBlock = some j) ((Only.refl _ _).grown hg fun j hk => .inl hk) (fun e => by have := hlv _ e; omega)
  have s8 := b4.only (F := fun j => lv.ownBlock = some j) ((Only.refl _ _).grown hg fun j hk => .inl hk) (fun e => by have := hlv _ e; omega)
  have hlb : FL lb ∨ wr.heap.size + 3 ≤ lb := hat.imp (fun e => h.l.2 lb e) (fun e => e)
  refine ⟨fun b => b = lb, ⟨h.full.only o (fun b _ hF hf => h.dj b hF (h.l.2 b hf)), ⟨hown, fun b hb => ?_⟩, s8, s7, fun b hF e => ?_, ⟨fun e => ?_, fun e => ?_⟩, ⟨fun e => ?_, fun e => ?_⟩, fun b hf => ?_⟩, h.below.trans (o.toBelow (by omega) fun j hj hf => ?_)⟩
  · simp [Value.ownBlock] at hb; exact hb.symm
  · subst e
    rcases hlb with e | e
    · exact h.dj b hF e
    · have := (h.ft b (.inl hF)).2; omega
  · have := (h.ft _ (.inl e)).2; omega
  · rcases hlb with e2 | e2
    · have := (h.ft _ (.inr e2)).2; omega
    · omega
  · have := (h.ft _ (.inl e)).2; omega
  · rcases hlb with e2 | e2
    · have := (h.ft _ (.inr e2)).2; omega
    · omega
  · have h7 := s7.lt
    rcases hf with e | e | e | e
    · have := h.ft b (.inl e); omega
    · subst e
      rcases hlb with e2 | e2
      · have := (h.ft _ (.inr e2)); omega
      · omega
    · omega
    · omega
  · have := (h.ft j (.inr (h.l.2 j hf))).1; omega
theorem alloc3_new (w : World) (o1 o2 o3 : Obj) : (((w.alloc o1).alloc o2).alloc o3).heap[w.heap.size + 2]? = some o3 := by
  have h := heap_alloc_new ((w.alloc o1).alloc o2) o3
  rwa [show ((w.alloc o1).alloc o2).heap.size = w.heap.size + 2 by simp] at h
set_option maxRecDepth 100000 in
set_option maxHeartbeats 16000000 in
theorem lent_c (w : World) (A : Option Addr) (len cap : Nat) (X : Nat → List Int) (r : RLL w (fun b => b < w.heap.size) A len X) (hl : len ≤ 250000) (hx : ∀ k, k < len → (X k).length ≤ 250000) :
    Calls Try.prog 11 #[.slice A len cap] w (LentPost w len X) := by
  have R := Lib.hid r
  have HX := Lib.hid hx
  clear r hx
  obtain ⟨i0, hI, hz0, hz1, hz2⟩ := info_parts info3
  have HI := Lib.hid hI
  have HZ0 := Lib.hid hz0
  have HZ1 := Lib.hid hz1
  have HZ2 := Lib.hid hz2
  obtain ⟨i1, kI, kz0, kz1, kz2⟩ := info_parts info27
  have KI := Lib.hid kI
  have KZ0 := Lib.hid kz0
  have KZ1 := Lib.hid kz1
  have KZ2 := Lib.hid kz2
  clear hI hz0 hz1 hz2 kI kz0 kz1 kz2
  have S0 : Hid (∃ F FL V, LNI w w X (.slice none 0 0) (.slice none 0 0) 0 0 F FL V) := ⟨_, _, _, LNI.start w X (fun _ => .bool false)⟩
  go_enter Try.func11, Try.ntmps11
  go_wp2_with fail
  go_loopw [4, 5, 6] (fun fv lv iv wr => ∃ k : Nat, k ≤ len ∧ iv = .int .i64 (k : Int) ∧ Hid (∃ F FL V, LNI w wr X fv lv k k F FL V)) (fun _ _ iv _ => len - (intOf iv).toNat)
  case atStart => exact ⟨0, by omega, rfl, S0⟩
  case round =>
    clear S0
    obtain ⟨k, hk, rfl, HR⟩ := hrel
    obtain ⟨F, FL, V, hN⟩ := HR.out
    have N := Lib.hid hN
    clear hN HR
    obtain ⟨Af, cf, rfl, hcf⟩ := N.out.full.row.shape
    obtain ⟨Al, cl, rfl, hcl⟩ := N.out.l.shape
    by_cases hlt : k < len
    · obtain ⟨b, off, Ak, ck, rfl, hGb, hbl, ck0, hRL⟩ := R.out.at_ k hlt
      have ckw := (N.out.below.cell (p := ⟨b, off + k, none⟩) hbl).trans ck0
      have NW := Lib.hid ((hRL.only (Only.ofBelow (F := fun _ => False) N.out.below) (fun _ _ _ h => h)).news)
      have hxl := HX.out k hlt
      obtain ⟨L, hL⟩ : ∃ L, L = (X k).length := ⟨_, rfl⟩
      have HL := Lib.hid hL
      have HNL : Hid ((nums (X k)).length = L * 1) := by have := nums_length (X k); show (nums (X k)).length = L * 1; omega
      rw [← hL] at ckw hxl
      have NW1 : Hid (Ak = none → L = 0) := by have := NW.out.1; rw [← hL] at this; exact this
      have CK0 := Lib.hid ck0
      have NB := Lib.hid (fun (w' : World) (hb : Below w.heap.size w w') => (hb.cell (p := ⟨b, off + k, none⟩) hbl).trans CK0.out)
      rw [← hL] at NB
      clear hL hRL ck0 CK0
      go_wp2_with (first
        | (have H4 := P4; at_builtin; go_must (refine wpList_append_any rfl (.tmp 25) (.tmp 33) 22 rfl 27 i1 _ 1 24 Try.underlying22 KI.out KZ0.out KZ1.out KZ2.out rfl (by omega) (.slice Al k cl) k _ rfl (P4.out.l.1.alloc _) (some ⟨w3.heap.size, 0, none⟩) 1 1 [.slice (some ⟨g2, 0, none⟩) L c2] rfl rfl (fun h => by cases h) (fun a ha => by injection ha with ha; subst ha; exact World.news_of_block (cs := #[.slice (some ⟨g2, 0, none⟩) L c2]) (t := 27) (fr := (0, 0)) (heap_alloc_new _ _)) (by simp [Value.oneCell']) (by unfold maxLen; omega) (by omega) (k + 1) rfl _ rfl (w3.heap.size + 1) (by simp) ?_); go_must (intro A4 c4 w4 hown hgrow hat; have Q4 := Lib.hid hown; have G4 := Lib.hid hgrow; have T4 := Lib.hid hat; clear hown hgrow hat))
        | (have H3 := P3; at_builtin; go_must (refine wpList_append_any rfl (.tmp 21) (.tmp 23) 22 rfl 27 i1 _ 1 24 Try.underlying22 KI.out KZ0.out KZ1.out KZ2.out rfl (by omega) (.slice Af k cf) k (heads k V) rfl (H3.out.1.full.row.1.alloc _) (some ⟨w2.heap.size, 0, none⟩) 1 1 [.slice (some ⟨g2, 0, none⟩) (L + 3) c2] rfl rfl (fun h => by cases h) (fun a ha => by injection ha with ha; subst ha; exact World.news_of_block (cs := #[.slice (some ⟨g2, 0, none⟩) (L + 3) c2]) (t := 27) (fr := (0, 0)) (heap_alloc_new _ _)) (by simp [Value.oneCell']) (by unfold maxLen; omega) (by omega) (k + 1) rfl _ rfl (w2.heap.size + 1) (by simp) ?_); go_must (intro A3 c3 w3 hown hgrow hat; have Q3 := Lib.hid hown; have G3 := Lib.hid hgrow; have T3 := Lib.hid hat; clear hown hgrow hat; obtain ⟨F3, hN3⟩ := N.out.pushF P3.out.2.1 P3.out.2.2 Q3.out G3.out (T3.out.imp (fun e => e) (fun e => ⟨_, e, by omega⟩)); have P4 := Lib.hid hN3; have ck3 := NB.out _ hN3.below; clear hN3))
        | (have H2 := P2; at_builtin; go_must (refine wpList_append_any rfl (.tmp 18) (.tmp 19) 27 rfl 3 i0 _ 1 8 Try.underlying27 HI.out HZ0.out HZ1.out HZ2.out rfl (by omega) (.slice A1 L c1) L (nums (X k)) rfl (P2.out.alloc _) (some ⟨w1.heap.size, 0, none⟩) 3 3 (nums marks) rfl rfl (fun h => by cases h) (fun a ha => by injection ha with ha; subst ha; exact World.news_of_block (cs := #[.int .i64 (-71), .int .i64 (-72), .int .i64 (-73)]) (t := 3) (fr := (0, 0)) (heap_alloc_new _ _)) (nums_one _) (by unfold maxLen; omega) (by omega) (L + 3) rfl _ rfl (w1.heap.size + 1) (by simp) ?_); go_must (intro A2 c2 w2 hown hgrow hat; obtain ⟨g2, c2', hv2, _, _⟩ := World.ownsRow.form hown (by omega); injection hv2 with hv2a _ hv2c; subst hv2a hv2c; have hc2 : L + 3 ≤ c2 := (let ⟨_, _, e1, e2⟩ := Row.shape (F := fun _ => True) ⟨hown, fun _ _ => trivial⟩; by injection e1 with _ _ e3; omega); have Q2 := Lib.hid hown; have G2 := Lib.hid hgrow; have T2 := Lib.hid hat; clear hown hgrow hat; have P3 := Lib.hid (LNI.twice N.out G1.out T1.out Q1.out G2.out T2.out Q2.out)))
        | (at_builtin; go_must (refine wpList_append_any rfl (.const (.slice none 0 0)) (.tmp 17) 27 rfl 3 i0 _ 1 8 Try.underlying27 HI.out HZ0.out HZ1.out HZ2.out rfl (by omega) (.slice none 0 0) 0 [] rfl (World.ownsRow_nil _ 0 3 1) Ak L ck (nums (X k)) rfl HNL.out NW1.out NW.out.2 (nums_one _) (by unfold maxLen; omega) (by omega) L (by omega) (nums (X k)) rfl wr.heap.size rfl ?_); go_must (intro A1 c1 w1 hown hgrow hat; have Q1 := Lib.hid hown; have G1 := Lib.hid hgrow; have T1 := Lib.hid hat; clear hown hgrow hat; have P2 := Q1)))
      have E : Hid (shorten (updf V k (.slice (some ⟨g2, 0, none⟩) (L + 3) c2) k) (X k).length = .slice (some ⟨g2, 0, none⟩) L c2) := by
        show shorten (updf V k (.slice (some ⟨g2, 0, none⟩) (L + 3) c2) k) (X k).length = .slice (some ⟨g2, 0, none⟩) L c2
        rw [updf_same, ← HL.out]; rfl
      go_roundw
      case rel =>
        refine ⟨k + 1, by omega, by go_num, ?_⟩
        obtain ⟨FL', hN4⟩ := P4.out.pushL (by rw [E.out]; exact Q4.out) G4.out (T4.out.imp (fun e => e) (fun e => ⟨_, e, by omega⟩))
        exact ⟨_, _, _, hN4⟩
      case measure => first | (simp [intOf]; done) | (simp [intOf]; omega)
    · obtain rfl : k = len := by omega
      clear hlt
      go_wp2_with (at_builtin; go_must (refine wpList_append_any rfl (.tmp 35) (.tmp 38) 22 rfl 27 i1 _ 1 24 Try.underlying22 KI.out KZ0.out KZ1.out KZ2.out rfl (by omega) (.slice Al k cl) k _ rfl (((N.out.l.1.alloc _).alloc _).alloc _) (some ⟨wr.heap.size + 2, 0, none⟩) 2 2 [.slice (some ⟨wr.heap.size, 0, none⟩) 1 1, .slice (some ⟨wr.heap.size + 1, 0, none⟩) 1 1] rfl rfl (fun h => by cases h) (fun a ha => by injection ha with ha; subst ha; exact World.news_of_block (cs := #[.slice (some ⟨wr.heap.size, 0, none⟩) 1 1, .slice (some ⟨wr.heap.size + 1, 0, none⟩) 1 1]) (t := 27) (fr := (0, 0)) (alloc3_new _ _ _ _)) (by simp [Value.oneCell']) (by unfold maxLen; omega) (by omega) (k + 2) rfl _ rfl (wr.heap.size + 3) (by simp) ?_); go_must (intro A4 c4 w4 hown hgrow hat; obtain ⟨lb, c4', hv2, _, _⟩ := World.ownsRow.form hown (by omega); injection hv2 with hv2a _ hv2c; subst hv2a hv2c; have hc4 : k + 2 ≤ c4 := (let ⟨_, _, e1, e2⟩ := Row.shape (F := fun _ => True) ⟨hown, fun _ _ => trivial⟩; by injection e1 with _ _ e3; omega); have Q4 := Lib.hid hown; have G4 := Lib.hid hgrow; have T4 := Lib.hid hat; clear hown hgrow hat))
      go_ret2
      obtain ⟨FL', hL, hB⟩ := N.out.finish Q4.out G4.out (T4.out.imp (fun e => e.symm.trans rfl) (fun e => by have e2 : some lb = some (wr.heap.size + 3) := e; injection e2 with e2; omega))
      exact ⟨lb, c4, _, F, FL', V, _, _, rfl, hc4, hL, hB⟩
end Go.Proofs.Ytdpeckfdilpidaa
