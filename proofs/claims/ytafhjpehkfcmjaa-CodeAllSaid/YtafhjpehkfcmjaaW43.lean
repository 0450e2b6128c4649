/- code's bytes that are zeros from a place on are no code, and the fault is told near that place; the walk of the law that says so. -/
import Derived.Test.YtafhjpehkfcmjaaW42
set_option linter.unusedVariables false
set_option linter.unusedSimpArgs false
namespace Go.Proofs.Ytafhjpehkfcmjaa
open Go.RowKit
/-- From a place that is far enough ahead of M, a fault is told at M at the latest. -/
def Zb (B : Nat → UInt8) (L M : Nat) (x : Pr) (D : Nat) : Prop := ∀ p, p + D ≤ M → ∃ q, run B L x p = .bad q ∧ q ≤ M
section
variable {B : Nat → UInt8} {L T M : Nat}
theorem leN_zeros : ∀ l : List UInt8, (∀ b, b ∈ l → b = 0) → leN l = 0
  | [], _ => rfl
  | a :: l, h => by rw [leN, leN_zeros l (fun b hb => h b (List.mem_cons_of_mem _ hb)), h a List.mem_cons_self]; rfl
theorem slc_zeros (hz : ∀ i, T ≤ i → B i = 0) {p n : Nat} (hp : T ≤ p) : leN (slc B p n) = 0 :=
  leN_zeros _ fun b hb => by
    obtain ⟨i, _, rfl⟩ := List.mem_map.1 hb
    exact hz _ (by omega)
theorem Zb.le {x : Pr} {D D' : Nat} (h : Zb B L M x D) (hd : D ≤ D') : Zb B L M x D' := fun p hp => h p (by omega)
theorem Zb_done (hM : M + 100 ≤ L) (c : Cd) : Zb B L M (.done c) 0 := fun p hp => ⟨p, run_rest c (by omega), by omega⟩
theorem Zb_need (hM : M + 100 ≤ L) {n D : Nat} {ok : List UInt8 → Prop} {f : List UInt8 → Pr} (hn : n ≤ 100) (h : ∀ l, l.length = n → ok l → Zb B L M (f l) D) : Zb B L M (.need n ok f) (n + D) := fun p hp => by
  by_cases h2 : ok (slc B p n)
  · rw [run_step (by omega) h2]
    exact h _ (slc_length ..) h2 _ (by omega)
  · exact ⟨p, run_wrong (by omega) h2, by omega⟩
theorem Zb_first (hM : M + 100 ≤ L) (hT : M = T + 100) (hz : ∀ i, T ≤ i → B i = 0) {n D : Nat} {ok : List UInt8 → Prop} {f : List UInt8 → Pr} (hn : n + D ≤ 100) (ho : ∀ l, ok l → leN l ≠ 0) (h : ∀ l, l.length = n → ok l → Zb B L M (f l) D) : Zb B L M (.need n ok f) 0 := fun p hp => by
  by_cases h2 : ok (slc B p n)
  · by_cases h3 : T ≤ p
    · exact absurd (slc_zeros hz h3) (ho _ h2)
    · rw [run_step (by omega) h2]
      exact h _ (slc_length ..) h2 _ (by omega)
  · exact ⟨p, run_wrong (by omega) h2, by omega⟩
theorem Zb_num (hM : M + 100 ≤ L) {n D lo hi : Nat} {k : Nat → Pr} (hn : n ≤ 100) (h : ∀ v, Zb B L M (k v) D) : Zb B L M (pNum n lo hi k) (n + D) := Zb_need hM hn fun l _ _ => h _
theorem Zb_num1 (hM : M + 100 ≤ L) (hT : M = T + 100) (hz : ∀ i, T ≤ i → B i = 0) {n D lo hi : Nat} {k : Nat → Pr} (hn : n + D ≤ 100) (h1 : 1 ≤ lo) (h : ∀ v, Zb B L M (k v) D) : Zb B L M (pNum n lo hi k) 0 :=
  Zb_first hM hT hz hn (fun l hl => by omega) fun l _ _ => h _
theorem Zb_head (hM : M + 100 ≤ L) (hT : M = T + 100) (hz : ∀ i, T ≤ i → B i = 0) {k : Pr} (hk : Zb B L M k 0) : ∀ l : List UInt8, (∀ b, b ∈ l → 1 ≤ b.toNat) → Zb B L M (pHead l k) 0
  | [], _ => hk
  | b :: l, h => Zb_num1 hM hT hz (by omega) (h b List.mem_cons_self) fun _ => Zb_head hM hT hz hk l fun b hb => h b (List.mem_cons_of_mem _ hb)
theorem Zb_fn (hM : M + 100 ≤ L) (hT : M = T + 100) (hz : ∀ i, T ≤ i → B i = 0) {m : Nat} {fs : List Fn} {k : Fn → Pr} (hk : ∀ f, Zb B L M (k f) 0) : Zb B L M (pFn m fs k) 0 := by
  refine Zb_first hM hT hz (D := 64) (by omega) (fun l hl => by omega) fun l _ hl => ?_
  refine (Zb_need (D := 0) hM (by omega) fun _ _ _ => ?_).le (D' := 64) (by omega)
  refine Zb_num1 hM hT hz (D := 0) (by omega) (by omega) fun _ => ?_
  refine Zb_num1 hM hT hz (D := 1) (by omega) (by omega) fun _ => ?_
  exact Zb_num hM (by omega) fun _ => hk _
theorem Zb_fns (hM : M + 100 ≤ L) (hT : M = T + 100) (hz : ∀ i, T ≤ i → B i = 0) {m : Nat} {k : List Fn → Pr} (hk : ∀ fs, Zb B L M (k fs) 0) : ∀ r fs, Zb B L M (pFns m r fs k) 0
  | 0, fs => hk fs
  | r + 1, fs => Zb_fn hM hT hz fun f => Zb_fns hM hT hz hk r _
theorem Zb_reg (hM : M + 100 ≤ L) {u : Bool} {D : Nat} {k : Nat → Pr} (h : ∀ v, Zb B L M (k v) D) : Zb B L M (pReg u k) (1 + D) := by
  cases u
  · exact (h 0).le (by omega)
  · exact Zb_num hM (by omega) h
theorem Zb_in (hM : M + 100 ≤ L) (hT : M = T + 100) (hz : ∀ i, T ≤ i → B i = 0) {nf : Nat} {f : Fn} {last : Bool} {k : Ins → Pr} (hk : ∀ x, Zb B L M (k x) 0) : Zb B L M (pIn nf f last k) 0 := by
  refine Zb_first hM hT hz (D := 1 + (1 + (1 + 8))) (by omega) (fun l hl => by omega) fun l _ hl => ?_
  refine Zb_reg hM fun a => Zb_reg hM fun b => Zb_reg hM fun c => ?_
  split
  · exact Zb_num hM (by omega) fun _ => hk _
  · exact (hk _).le (by omega)
theorem Zb_ins (hM : M + 100 ≤ L) (hT : M = T + 100) (hz : ∀ i, T ≤ i → B i = 0) {nf : Nat} {f : Fn} {k : List Ins → Pr} (hk : ∀ xs, Zb B L M (k xs) 0) : ∀ r xs, Zb B L M (pIns nf f r xs k) 0
  | 0, xs => hk xs
  | r + 1, xs => Zb_in hM hT hz fun x => Zb_ins hM hT hz hk r _
theorem Zb_body (hM : M + 100 ≤ L) (hT : M = T + 100) (hz : ∀ i, T ≤ i → B i = 0) {nf : Nat} {k : List Ins → Pr} (hk : ∀ xs, Zb B L M (k xs) 0) : ∀ gs xs, Zb B L M (pBody nf gs xs k) 0
  | [], xs => hk xs
  | f :: gs, xs => Zb_ins hM hT hz (fun ys => Zb_body hM hT hz hk gs ys) _ _
/-- Zeros from T on: the fault is told at T + 100 at the latest. -/
theorem run_zeros (hL : T + 200 ≤ L) (hz : ∀ i, T ≤ i → B i = 0) : ∃ q, run B L pAll 0 = .bad q ∧ q ≤ T + 100 := by
  have hM : T + 100 + 100 ≤ L := by omega
  refine Zb_head hM rfl hz (Zb_num1 hM rfl hz (D := 4) (by omega) (by omega) fun n => ?_) _ (by decide) 0 (by omega)
  refine Zb_num (D := 0) hM (by omega) fun m => ?_
  exact Zb_fns hM rfl hz (fun fs => Zb_body hM rfl hz (fun xs => Zb_done hM _) _ _) _ _
end
attribute [local go_sem ↓] Go.wp_at_zero Go.wp_at_succ
theorem made_long : ∃ Z : Array Value, (∀ i, i < 268435457 → Z[i]? = some (.int .u8 0)) ∧ ∀ W' : World, (Instr.makeSlice 28 (.int .i64 268435457) (.int .i64 268435457)).run Try.prog W' = .ok (.slice (some ⟨W'.heap.size, 0, none⟩) 268435457 268435457) (W'.alloc (.cells Z 5)) := by
  obtain ⟨Z, h1, h2⟩ := made_bytes 268435457 (by omega)
  exact ⟨Z, h1, h2⟩
/-- The long row: bytes that are first's so far, zeros behind. -/
structure LongR (w wr : World) (G : Nat → Prop) (A : Option Addr) (L : Nat) (Bf : Nat → UInt8) (g k : Nat) (Z : Array Value) : Prop where
  blk : Blk wr g 5 Z
  far : w.heap.size ≤ g
  arg : BL wr G A L Bf
  below : Below w.heap.size w wr
  val : ∀ i, i < 268435457 → Z[i]? = some (.int .u8 ((if i < k then Bf i else 0).toNat : Int))
theorem LongR.put {w wr : World} {G : Nat → Prop} {A : Option Addr} {L : Nat} {Bf : Nat → UInt8} {g k : Nat} {Z : Array Value} (h : LongR w wr G A L Bf g k Z) (hG : ∀ b, G b → b < w.heap.size) (hk : k < 268435457) :
    LongR w (wr.setCell ⟨g, k, none⟩ (.int .u8 ((Bf k).toNat : Int))) G A L Bf g (k + 1) (Z.setIfInBounds k (.int .u8 ((Bf k).toNat : Int))) := by
  have o : Only (fun b => b = g) wr (wr.setCell ⟨g, k, none⟩ (.int .u8 ((Bf k).toNat : Int))) := (Only.refl (fun b => b = g) wr).setCell (.inl rfl) _
  have hf := h.far
  refine ⟨h.blk.set_ k _, hf, h.arg.only o (fun b _ hb e => by have := hG b hb; omega), h.below.setCell hf _, fun i hi => ?_⟩
  have hs : k < Z.size := by
    have := h.val k hk
    rcases Nat.lt_or_ge k Z.size with h1 | h1
    · exact h1
    · rw [Array.getElem?_eq_none h1] at this; cases this
  by_cases e : k = i
  · subst e
    rw [Array.getElem?_setIfInBounds_self_of_lt hs, if_pos (by omega)]
  · rw [Array.getElem?_setIfInBounds_ne e, h.val i hi]
    by_cases e2 : i < k
    · rw [if_pos e2, if_pos (by omega)]
    · rw [if_neg e2, if_neg (by omega)]
theorem LongR.bl {w wr : World} {G : Nat → Prop} {A : Option Addr} {L : Nat} {Bf : Nat → UInt8} {g k : Nat} {Z : Array Value} (h : LongR w wr G A L Bf g k Z) : BL wr (fun b => b < wr.heap.size) (some ⟨g, 0, none⟩) 268435457 (fun i => if i < k then Bf i else 0) :=
  fun i hi => ⟨g, 0, rfl, h.blk.lt, h.blk.lt, by rw [Nat.zero_add]; exact (h.blk.cell i).trans (h.val i hi)⟩
set_option maxRecDepth 100000 in
set_option maxHeartbeats 16000000 in
theorem long_c (w : World) (G : Nat → Prop) (hG : ∀ b, G b → b < w.heap.size) (A : Option Addr) (L c : Nat) (Bf : Nat → UInt8) (hB : BL w G A L Bf) (hc : L ≤ c) (hc2 : c ≤ 9223372036854775807) (n : Int) (hn : i64in n) :
    Calls Try.prog 8 #[.int .i64 n, .slice A L c] w fun e w' => e = .returned (.bool true) ∧ Below w.heap.size w w' := by
  obtain ⟨Z, hZ0, hmk⟩ := made_long
  have HZ := Lib.hid hZ0
  have HG := Lib.hid hG
  have HB := Lib.hid hB
  clear hZ0 hG hB
  obtain ⟨n1, n2⟩ := hn
  go_enter Try.func8, Try.ntmps8
  go_wp2_with fail
  refine (alive_c w).mono ?_
  rintro e w3 ⟨rfl, hb3⟩
  have S3 := Lib.hid hb3
  have HB3 := Lib.hid (HB.out.below hb3)
  clear hb3 HB
  by_cases h64 : bits BinOp.and IntKind.i64 n 63 = 0
  case neg =>
    have hd : (bits BinOp.and IntKind.i64 n 63 == 0) = false := beq_eq_false_iff_ne.2 h64
    go_wp2_with fail
    go_ret
    exact ⟨rfl, S3.out⟩
  by_cases hL : L ≤ 65536
  case neg =>
    go_wp2_with fail
    go_ret
    exact ⟨rfl, S3.out⟩
  have hR0 := S3.out.alloc S3.out.size (.cells Z 5)
  have R0 : Hid (LongR w (w3.alloc (.cells Z 5)) G A L Bf w3.heap.size 0 Z) := ⟨Blk.new w3 5 Z, S3.out.size, HB3.out.below ((Below.refl _ w3).alloc (Nat.le_refl _) _), hR0, fun i hi => by rw [if_neg (by omega)]; exact HZ.out i hi⟩
  clear hR0 S3 HB3 HZ
  go_upto_region 6 with fail
  clear hmk
  generalize w3.heap.size = g at *
  generalize w3.alloc (.cells Z 5) = w4 at *
  go_loopw [7] (fun kv wx => ∃ k Z', k ≤ L ∧ kv = .int .i64 (k : Int) ∧ Hid (LongR w wx G A L Bf g k Z')) (fun kv _ => L - (intOf kv).toNat)
  case atStart => exact ⟨0, Z, by omega, rfl, R0⟩
  case round =>
    clear R0
    obtain ⟨k, Z', hk, rfl, R⟩ := hrel
    have k0 : wr.cell? ⟨g, k, none⟩ = some (.int .u8 ((if k < k then Bf k else 0).toNat : Int)) := (R.out.blk.cell k).trans (R.out.val k (by omega))
    by_cases hkl : k < L
    · obtain ⟨b, off, rfl, hb, hbl, kc⟩ := R.out.arg k hkl
      have kz := R.out.blk.frozen k
      have k0' : wr.cell? ⟨g, k, none⟩ = some (.int .u8 ((if k < k then Bf k else 0).toNat : Int)) := k0
      have hgl := R.out.blk.lt
      have R2 := Lib.hid (R.out.put HG.out (by omega))
      clear R k0
      have hk1 : (k : Int) < 268435457 := by omega
      have hk2 : (k : Int) < (L : Int) := by omega
      go_wp2_with fail
      go_roundw
      case rel => exact ⟨k + 1, _, by omega, by go_num, R2⟩
      case measure => first | (simp [intOf]; done) | (simp [intOf]; omega)
    · obtain rfl : k = L := by omega
      clear k0
      have V := Lib.hid R.out.bl
      have B := Lib.hid R.out.below
      clear R
      go_wp2_with fail
      refine (read_c wr _ (fun b h => h) (some ⟨g, 0, none⟩) 268435457 268435457 _ V.out (by omega) (Nat.le_refl _) (by omega)).mono ?_
      rintro e w5 ⟨hb5, ⟨_, rfl⟩ | ⟨h, _⟩ | ⟨h, _⟩⟩
      case inr.inl => omega
      case inr.inr => omega
      have B5 := Lib.hid ((B.out.trans (hb5.mono B.out.size)).alloc (Nat.le_trans B.out.size hb5.size) (.cells #[.slice none 0 0, .slice none 0 0, .int .i64 0] 25))
      have V5 := Lib.hid (((V.out.below hb5).now.below ((Below.refl _ w5).alloc (Nat.le_refl _) (.cells #[.slice none 0 0, .slice none 0 0, .int .i64 0] 25))).now.less (m := 268435456) (by omega))
      clear hb5 V B
      unfold zeroC
      go_wp2_with (go_at_call 22; refine (num_d _ _).mono ?_; rintro e w9 ⟨rfl, rfl⟩)
      generalize w5.alloc (.cells #[.slice none 0 0, .slice none 0 0, .int .i64 0] 25) = w6 at *
      refine (read_c w6 _ (fun b h => h) (some ⟨g, 0, none⟩) 268435456 268435457 _ V5.out (by omega) (by omega) (by omega)).mono ?_
      obtain ⟨q0, hq0, hq1⟩ := run_zeros (B := fun i => if i < k then Bf i else 0) (L := 268435456) (T := k) (by omega) (fun i hi => if_neg (by omega))
      rintro e w7 ⟨hb7, ⟨h, _⟩ | ⟨_, q, hq, rfl⟩ | ⟨_, cd, iv, fv, hq, rfl, _, _⟩⟩
      · omega
      · have e7 : q0 = q := by rw [hq0] at hq; injection hq
        subst e7
        have B7 := Lib.hid ((B5.out.trans (hb7.mono B5.out.size)).alloc (Nat.le_trans B5.out.size hb7.size) (.cells #[.slice none 0 0, .slice none 0 0, .int .i64 0] 25))
        clear hb7 hq hq0 V5 B5
        unfold zeroC
        go_wp2_with (go_at_call 22; refine (num_d _ _).mono ?_; rintro e w9 ⟨rfl, rfl⟩)
        go_ret
        have hd : decide ((q0 : Int) ≤ (k : Int) + 100) = true := decide_eq_true (by omega)
        exact ⟨by first | rfl | (show Ending.returned (.bool (decide ((q0 : Int) ≤ (k : Int) + 100))) = _; rw [hd]), B7.out⟩
      · rw [hq0] at hq; cases hq
end Go.Proofs.Ytafhjpehkfcmjaa
