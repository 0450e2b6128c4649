/- the laws' num, sample: walks; what alive asks. alive: the walk. -/
import Derived.Test.YtafhjpehkfcmjaaW35
set_option linter.unusedVariables false
set_option linter.unusedSimpArgs false
namespace Go.Proofs.Ytafhjpehkfcmjaa
open Go.RowKit
attribute [local go_sem ↓] Go.wp_at_zero Go.wp_at_succ
def sX : Nat → Ins := fun _ => ⟨27, 0, 0, 0, 0⟩
def sF : Nat → Fn := fun _ => ⟨⟨#[109, 97, 105, 110]⟩, 2, 0, 1, 0⟩
def wantL : List UInt8 := [113, 114, 49, 54, 1, 0, 0, 0, 0, 0, 0, 0, 4, 109, 97, 105, 110, 2, 0, 0, 0, 0, 0, 0, 0, 1, 0, 0, 0, 0, 27]
theorem want_enc : enc 1 sX 1 sF 0 = wantL := by decide +kernel
theorem sample_name : NameOk ⟨#[109, 97, 105, 110]⟩ := by
  refine ⟨by decide, by decide, by decide +kernel, ?_⟩
  have h : ∀ i : Fin 4, charOk i.1 (bAt ⟨#[109, 97, 105, 110]⟩ i.1) = true := by decide +kernel
  intro i hi
  exact h ⟨i, hi⟩
theorem sample_ok : CodeOk 1 sX 1 sF 0 := by
  refine ⟨fun k hk => ?_, by decide, by decide, by decide, by decide⟩
  obtain rfl : k = 0 := by omega
  refine ⟨rfl, by decide, by decide, fun j hj => absurd hj (Nat.not_lt_zero _), sample_name, by decide, by decide, by decide, by decide, fun j hj => ?_, by decide⟩
  obtain rfl : j = 0 := by have : (sF 0).count.toNat = 1 := rfl; omega
  decide +kernel
def lstF (l : List UInt8) (i : Nat) : UInt8 := l.getD i 0
theorem slc_lst (l : List UInt8) : ∀ n, n ≤ l.length → slc (lstF l) 0 n = l.take n
  | 0, _ => by simp [slc]
  | n + 1, h => by
    rw [slc_succ, slc_lst l n (by omega), List.take_succ_eq_append_getElem (by omega)]
    congr 2
    unfold lstF
    rw [List.getD_eq_getElem?_getD, Nat.zero_add, List.getElem?_eq_getElem (by omega)]; rfl
theorem at_lst (l : List UInt8) : At (lstF l) l.length 0 l := ⟨by omega, by rw [slc_lst l _ (Nat.le_refl _), List.take_length]⟩
theorem sX_in (a : Nat) : InsIn (sX a) := ⟨⟨(by decide : (-9223372036854775808 : Int) ≤ 27), (by decide : (27 : Int) ≤ 9223372036854775807)⟩, ⟨(by decide : (-9223372036854775808 : Int) ≤ 0), (by decide : (0 : Int) ≤ 9223372036854775807)⟩, ⟨(by decide : (-9223372036854775808 : Int) ≤ 0), (by decide : (0 : Int) ≤ 9223372036854775807)⟩, ⟨(by decide : (-9223372036854775808 : Int) ≤ 0), (by decide : (0 : Int) ≤ 9223372036854775807)⟩, ⟨(by decide : (-9223372036854775808 : Int) ≤ 0), (by decide : (0 : Int) ≤ 9223372036854775807)⟩⟩
theorem sF_in (a : Nat) : FnIn (sF a) := ⟨⟨(by decide : (-9223372036854775808 : Int) ≤ 2), (by decide : (2 : Int) ≤ 9223372036854775807)⟩, ⟨(by decide : (-9223372036854775808 : Int) ≤ 0), (by decide : (0 : Int) ≤ 9223372036854775807)⟩, ⟨(by decide : (-9223372036854775808 : Int) ≤ 1), (by decide : (1 : Int) ≤ 9223372036854775807)⟩, ⟨(by decide : (-9223372036854775808 : Int) ≤ 0), (by decide : (0 : Int) ≤ 9223372036854775807)⟩⟩
theorem sample_run : run (lstF wantL) 31 pAll 0 = .good ⟨tabX sX 1, tabF sF 1, 0⟩ := by
  have := enc_run (B := lstF wantL) (L := 31) sample_ok (fun a _ => sX_in a) (by omega) (by omega) (by rw [want_enc]; exact at_lst wantL) (by rw [want_enc]; rfl)
  exact this
theorem sample_short : run (lstF wantL) 30 pAll 0 = .bad 30 := run_short (by omega) pAll 0 Sm_all (by omega) (.inr ⟨_, sample_run⟩)
theorem num_c (e : Int) (w : World) : Calls Try.prog 22 #[.int .i64 e] w fun r w' => r = .returned (.int .i64 e) ∧ w' = w := by
  go_enter Try.func22, Try.ntmps22
  go_wp2
  go_ret
  exact ⟨rfl, rfl⟩
theorem sample_c (w : World) : Calls Try.prog 23 #[] w fun e w' => ∃ A B, e = .returned (codeV A 1 1 B 1 1 0) ∧ IL w' (fun b => w.heap.size ≤ b) A 1 sX ∧ FL w' (fun b => w.heap.size ≤ b) B 1 sF ∧ Below w.heap.size w w' := by
  go_enter Try.func23, Try.ntmps23
  go_wp2
  have K0 := Blk.new w 25 #[.slice (some ⟨w.heap.size + 1, 0, none⟩) 1 1, .slice (some ⟨w.heap.size + 1 + 1, 0, none⟩) 1 1, .int .i64 0]
  have K1 := Blk.new (w.alloc (.cells #[.slice (some ⟨w.heap.size + 1, 0, none⟩) 1 1, .slice (some ⟨w.heap.size + 1 + 1, 0, none⟩) 1 1, .int .i64 0] 25)) 41 #[.int .i64 27, .int .i64 0, .int .i64 0, .int .i64 0, .int .i64 0]
  have K2 := Blk.new ((w.alloc (.cells #[.slice (some ⟨w.heap.size + 1, 0, none⟩) 1 1, .slice (some ⟨w.heap.size + 1 + 1, 0, none⟩) 1 1, .int .i64 0] 25)).alloc (.cells #[.int .i64 27, .int .i64 0, .int .i64 0, .int .i64 0, .int .i64 0] 41)) 53 #[.string ⟨#[109, 97, 105, 110]⟩, .int .i64 2, .int .i64 0, .int .i64 1, .int .i64 0]
  have K0' := (K0.alloc (.cells #[.int .i64 27, .int .i64 0, .int .i64 0, .int .i64 0, .int .i64 0] 41)).alloc (.cells #[.string ⟨#[109, 97, 105, 110]⟩, .int .i64 2, .int .i64 0, .int .i64 1, .int .i64 0] 53)
  have K1' := K1.alloc (.cells #[.string ⟨#[109, 97, 105, 110]⟩, .int .i64 2, .int .i64 0, .int .i64 1, .int .i64 0] 53)
  have z1 : (w.alloc (.cells #[.slice (some ⟨w.heap.size + 1, 0, none⟩) 1 1, .slice (some ⟨w.heap.size + 1 + 1, 0, none⟩) 1 1, .int .i64 0] 25)).heap.size = w.heap.size + 1 := by simp
  have z2 : ((w.alloc (.cells #[.slice (some ⟨w.heap.size + 1, 0, none⟩) 1 1, .slice (some ⟨w.heap.size + 1 + 1, 0, none⟩) 1 1, .int .i64 0] 25)).alloc (.cells #[.int .i64 27, .int .i64 0, .int .i64 0, .int .i64 0, .int .i64 0] 41)).heap.size = w.heap.size + 1 + 1 := by simp
  have BB := (((Below.refl w.heap.size w).alloc (Nat.le_refl _) (.cells #[.slice (some ⟨w.heap.size + 1, 0, none⟩) 1 1, .slice (some ⟨w.heap.size + 1 + 1, 0, none⟩) 1 1, .int .i64 0] 25)).alloc (by simp) (.cells #[.int .i64 27, .int .i64 0, .int .i64 0, .int .i64 0, .int .i64 0] 41)).alloc (by simp; omega) (.cells #[.string ⟨#[109, 97, 105, 110]⟩, .int .i64 2, .int .i64 0, .int .i64 1, .int .i64 0] 53)
  rw [z1] at K1'
  rw [z2] at K2
  refine bodyPost_ret (results_cell rfl (a := ⟨w.heap.size, 0, none⟩) rfl (run_loadVar_row _ w.heap.size 25 25 #[.slice (some ⟨w.heap.size + 1, 0, none⟩) 1 1, .slice (some ⟨w.heap.size + 1 + 1, 0, none⟩) 1 1, .int .i64 0] (0, 0) _ K0' Try.underlying25 rfl (by kernel_rfl))) rfl ?_
  refine ⟨some ⟨w.heap.size + 1, 0, none⟩, some ⟨w.heap.size + 1 + 1, 0, none⟩, rfl, ⟨by decide, fun i hi => ?_⟩, ⟨by decide, fun i hi => ?_⟩, BB⟩
  · obtain rfl : i = 0 := by omega
    exact ⟨sX_in 0, w.heap.size + 1, 0, rfl, Nat.le_succ _, K1'.lt, K1'.cell 0, K1'.cell 1, K1'.cell 2, K1'.cell 3, K1'.cell 4⟩
  · obtain rfl : i = 0 := by omega
    exact ⟨sF_in 0, (by decide : (4 : Nat) ≤ 9223372036854775807), w.heap.size + 1 + 1, 0, rfl, Nat.le_trans (Nat.le_succ _) (Nat.le_succ _), K2.lt, K2.cell 0, K2.cell 1, K2.cell 2, K2.cell 3, K2.cell 4⟩
end Go.Proofs.Ytafhjpehkfcmjaa
namespace Go.Proofs.Ytafhjpehkfcmjaa
open Go.RowKit
attribute [local go_sem ↓] Go.wp_at_zero Go.wp_at_succ
theorem BR.bl {w : World} {H n cap : Nat} {A : Option Addr} {l : List UInt8} (h : BR w H (.slice A n cap) l) : BL w (fun b => b < w.heap.size) A l.length (lstF l) := by
  intro i hi
  obtain ⟨A', cap', e, _, _, hg⟩ := own_shape h
  obtain ⟨g, rfl, hb, hlt, _⟩ := hg (by omega)
  injection e with e1 e2 e3
  subst e1 e2
  refine ⟨g, 0, rfl, hlt, hlt, ?_⟩
  have k := World.ownsRow.cellAt h i (by omega)
  rw [Nat.zero_add]
  refine k.trans ?_
  unfold byts lstF
  rw [List.getElem?_map, List.getElem?_eq_getElem hi, List.getD_eq_getElem?_getD, List.getElem?_eq_getElem hi]
  rfl
theorem IL.now {w : World} {G : Nat → Prop} {A : Option Addr} {n : Nat} {X : Nat → Ins} (h : IL w G A n X) : IL w (fun b => b < w.heap.size) A n X :=
  ⟨h.1, fun i hi => let ⟨a, b, off, e, _, hb, c⟩ := h.2 i hi; ⟨a, b, off, e, hb, hb, c⟩⟩
theorem FL.now {w : World} {G : Nat → Prop} {A : Option Addr} {n : Nat} {X : Nat → Fn} (h : FL w G A n X) : FL w (fun b => b < w.heap.size) A n X :=
  ⟨h.1, fun i hi => let ⟨a, a2, b, off, e, _, hb, c⟩ := h.2 i hi; ⟨a, a2, b, off, e, hb, hb, c⟩⟩
theorem IL.below {w w' : World} {G : Nat → Prop} {A : Option Addr} {n : Nat} {X : Nat → Ins} (h : IL w G A n X) (hb : Below w.heap.size w w') : IL w' G A n X := h.only (Only.ofBelow (F := fun _ => False) hb) (fun _ _ _ h => h)
theorem FL.below {w w' : World} {G : Nat → Prop} {A : Option Addr} {n : Nat} {X : Nat → Fn} (h : FL w G A n X) (hb : Below w.heap.size w w') : FL w' G A n X := h.only (Only.ofBelow (F := fun _ => False) hb) (fun _ _ _ h => h)
theorem BL.below {w w' : World} {G : Nat → Prop} {A : Option Addr} {n : Nat} {S : Nat → UInt8} (h : BL w G A n S) (hb : Below w.heap.size w w') : BL w' G A n S := h.only (Only.ofBelow (F := fun _ => False) hb) (fun _ _ _ h => h)
theorem BL.less {w : World} {G : Nat → Prop} {A : Option Addr} {n m : Nat} {S : Nat → UInt8} (h : BL w G A n S) (hm : m ≤ n) : BL w G A m S := fun i hi => h i (by omega)
theorem BL.now {w : World} {G : Nat → Prop} {A : Option Addr} {n : Nat} {S : Nat → UInt8} (h : BL w G A n S) : BL w (fun b => b < w.heap.size) A n S := fun i hi => let ⟨b, off, e, _, hb, c⟩ := h i hi; ⟨b, off, e, hb, hb, c⟩
/-- A block of bytes, read. -/
theorem Blk.bl {w : World} {g : Nat} {t : TypeId} (l : List UInt8) (h : Blk w g t (byts l).toArray) : BL w (fun b => b < w.heap.size) (some ⟨g, 0, none⟩) l.length (lstF l) := by
  intro i hi
  refine ⟨g, 0, rfl, h.lt, h.lt, ?_⟩
  rw [Nat.zero_add]
  refine (h.cell i).trans ?_
  unfold byts lstF
  rw [List.getElem?_toArray, List.getElem?_map, List.getElem?_eq_getElem hi, List.getD_eq_getElem?_getD, List.getElem?_eq_getElem hi]
  rfl
def wantA : Array Value := #[.int .u8 113, .int .u8 114, .int .u8 49, .int .u8 54, .int .u8 1, .int .u8 0, .int .u8 0, .int .u8 0, .int .u8 0, .int .u8 0, .int .u8 0, .int .u8 0, .int .u8 4, .int .u8 109, .int .u8 97, .int .u8 105, .int .u8 110, .int .u8 2, .int .u8 0, .int .u8 0, .int .u8 0, .int .u8 0, .int .u8 0, .int .u8 0, .int .u8 0, .int .u8 1, .int .u8 0, .int .u8 0, .int .u8 0, .int .u8 0, .int .u8 27]
theorem wantA_eq : wantA = (byts wantL).toArray := by rfl
/-- What alive holds ahead of its last line. -/
structure AK (w : World) (g : Nat) (A : Option Addr) (c1 : Nat) (B : Option Addr) (c2 : Nat) (V : Option Addr) (cv : Nat) (W : Option Addr) : Prop where
  box : Blk w g 25 #[.slice A 1 c1, .slice B 1 c2, .int .i64 0]
  il : IL w (fun b => b < w.heap.size) A 1 (insF (tabX sX 1))
  fl : FL w (fun b => b < w.heap.size) B 1 (fnF (tabF sF 1))
  bv : BL w (fun b => b < w.heap.size) V 31 (lstF wantL)
  bw : BL w (fun b => b < w.heap.size) W 31 (lstF wantL)
  h1 : 1 ≤ c1
  h2 : 1 ≤ c2
theorem AK.below {w w' : World} {g : Nat} {A : Option Addr} {c1 : Nat} {B : Option Addr} {c2 : Nat} {V : Option Addr} {cv : Nat} {W : Option Addr} (h : AK w g A c1 B c2 V cv W) (hb : Below w.heap.size w w') : AK w' g A c1 B c2 V cv W :=
  ⟨h.box.below hb h.box.lt, (h.il.below hb).now, (h.fl.below hb).now, (h.bv.below hb).now, (h.bw.below hb).now, h.h1, h.h2⟩
def AS (w : World) (g : Nat) (A : Option Addr) (c1 : Nat) (B : Option Addr) (c2 : Nat) (V : Option Addr) (cv : Nat) (W : Option Addr) : Prop :=
  w.cell? ⟨g, 0, none⟩ = some (.slice A 1 c1) ∧ w.cell? ⟨g, 1, none⟩ = some (.slice B 1 c2) ∧ w.cell? ⟨g, 2, none⟩ = some (.int .i64 0) ∧
    (convert 28 9 (.slice V 31 cv)).run Try.prog w = .ok (.string (nameOf (slc (lstF wantL) 0 31))) w ∧ (convert 28 9 (.slice W 31 31)).run Try.prog w = .ok (.string (nameOf (slc (lstF wantL) 0 31))) w
theorem AK.as {w : World} {g : Nat} {A : Option Addr} {c1 : Nat} {B : Option Addr} {c2 : Nat} {V : Option Addr} {cv : Nat} {W : Option Addr} (h : AK w g A c1 B c2 V cv W) : AS w g A c1 B c2 V cv W :=
  ⟨h.box.cell 0, h.box.cell 1, h.box.cell 2, bytes_string h.bv (by omega), bytes_string h.bw (by omega)⟩
theorem alive_same (w : World) (g : Nat) (A : Option Addr) (c1 : Nat) (B : Option Addr) (c2 : Nat) (V : Option Addr) (cv : Nat) (W : Option Addr) (h : AK w g A c1 B c2 V cv W) {G : Nat → Prop} {A' B' : Option Addr} (hi : IL w G A' 1 sX) (hf : FL w G B' 1 sF) :
    Calls Try.prog 20 #[.agg #[.slice A 1 c1, .slice B 1 c2, .int .i64 0], codeV A' 1 1 B' 1 1 0] w fun e w' => e = .returned (.bool true) ∧ Below w.heap.size w w' := by
  refine (same_c w _ _ A 1 c1 (insF (tabX sX 1)) B 1 c2 (fnF (tabF sF 1)) 0 A' 1 1 sX B' 1 1 sF 0 h.il h.fl hi hf ⟨by decide, by decide⟩ ⟨by decide, by decide⟩ h.h1 (Nat.le_refl _) h.h2 (Nat.le_refl _)).mono ?_
  rintro e w' ⟨r, rfl, hr, hb⟩
  have h1 : ∀ i, i < 1 → insF (tabX sX 1) i = sX i := fun i hi => by
    obtain rfl : i = 0 := by omega
    rfl
  have h2 : ∀ i, i < 1 → fnF (tabF sF 1) i = sF i := fun i hi => by
    obtain rfl : i = 0 := by omega
    rfl
  obtain rfl : r = true := hr.2 ⟨rfl, rfl, rfl, h1, h2⟩
  exact ⟨rfl, hb⟩
theorem read_sample (w : World) (A : Option Addr) (h : BL w (fun b => b < w.heap.size) A 31 (lstF wantL)) :
    Calls Try.prog 17 #[.slice A 31 31] w fun e w' => ∃ A' c1 B' c2, e = .returned (.tuple #[.agg #[.slice A' 1 c1, .slice B' 1 c2, .int .i64 0], .int .i64 0, .int .i64 0]) ∧ 1 ≤ c1 ∧ 1 ≤ c2 ∧
      IL w' (fun b => b < w'.heap.size) A' 1 (insF (tabX sX 1)) ∧ FL w' (fun b => b < w'.heap.size) B' 1 (fnF (tabF sF 1)) ∧ Below w.heap.size w w' := by
  refine (read_c w _ (fun b h => h) A 31 31 (lstF wantL) h (by decide) (Nat.le_refl _) (by decide)).mono ?_
  rintro e w' ⟨hb, ⟨h, _⟩ | ⟨_, q, hq, _⟩ | ⟨_, cd, iv, fv, hq, rfl, hi, hf⟩⟩
  · omega
  · rw [sample_run] at hq; cases hq
  · rw [sample_run] at hq
    injection hq with hq
    subst hq
    obtain ⟨A', c1, rfl, h1, _, _⟩ := own_shape hi
    obtain ⟨B', c2, rfl, h2, _, _⟩ := own_shape hf
    refine ⟨A', c1, B', c2, rfl, h1, h2, (hi.il ?_ ?_).now, (hf.fl ?_ ?_).now, hb⟩
    · intro x hx
      obtain rfl : x = sX 0 := by simpa [tabX] using hx
      exact sX_in 0
    · exact (by decide : (1 : Nat) ≤ 9223372036854775807)
    · intro x hx
      obtain rfl : x = sF 0 := by simpa [tabF] using hx
      exact ⟨sF_in 0, (by decide : (4 : Nat) ≤ 9223372036854775807)⟩
    · exact (by decide : (1 : Nat) ≤ 9223372036854775807)
theorem read_short (w : World) (A : Option Addr) (h : BL w (fun b => b < w.heap.size) A 31 (lstF wantL)) :
    Calls Try.prog 17 #[.slice A 30 31] w fun e w' => e = .returned (.tuple #[.agg #[.slice none 0 0, .slice none 0 0, .int .i64 0], .int .i64 30, .int .i64 220]) ∧ Below w.heap.size w w' := by
  refine (read_c w _ (fun b h => h) A 30 31 (lstF wantL) (h.less (by omega)) (by decide) (by decide) (by decide)).mono ?_
  rintro e w' ⟨hb, ⟨h, _⟩ | ⟨_, q, hq, rfl⟩ | ⟨_, cd, iv, fv, hq, rfl, hi, hf⟩⟩
  · omega
  · rw [sample_short] at hq
    injection hq with hq
    subst hq
    exact ⟨rfl, hb⟩
  · rw [sample_short] at hq; cases hq
set_option maxRecDepth 100000 in
set_option maxHeartbeats 16000000 in
theorem alive_c (w : World) : Calls Try.prog 13 #[] w fun e w' => e = .returned (.bool true) ∧ Below w.heap.size w w' := by
  go_enter Try.func13, Try.ntmps13
  go_wp2_with fail
  refine (sample_c w).mono ?_
  rintro e w1 ⟨A, B, rfl, hi, hf, hb1⟩
  have B1 := Lib.hid hb1
  have I1 := Lib.hid hi.now
  have F1 := Lib.hid hf.now
  clear hi hf hb1
  go_wp2_with fail
  refine (write_c w1 _ (fun b h => h) A 1 1 sX B 1 1 sF 0 I1.out (Nat.le_refl _) F1.out (Nat.le_refl _) ⟨by decide, by decide⟩ (by decide) (by decide)).mono ?_
  rintro e w2 ⟨v, r, rfl, hb2, ⟨rfl, _, hv⟩ | ⟨_, hn, _⟩⟩
  case inr => exact absurd sample_ok hn
  rw [want_enc] at hv
  obtain ⟨V, cv, hve, _, _, _⟩ := own_shape hv
  rw [show wantL.length = 31 from rfl] at hve
  subst hve
  have V2 := Lib.hid (show BL w2 _ V 31 (lstF wantL) from hv.bl)
  have B2 := Lib.hid (B1.out.trans (hb2.mono B1.out.size))
  clear hv hb2 B1 I1 F1
  go_wp2_with fail
  change Calls _ _ _ (w2.alloc (.cells wantA 5)) _
  have V3 : Hid (BL (w2.alloc (.cells wantA 5)) (fun b => b < (w2.alloc (.cells wantA 5)).heap.size) V 31 (lstF wantL)) := (V2.out.below ((Below.refl _ w2).alloc (Nat.le_refl _) _)).now
  have W3 : Hid (BL (w2.alloc (.cells wantA 5)) (fun b => b < (w2.alloc (.cells wantA 5)).heap.size) (some ⟨w2.heap.size, 0, none⟩) 31 (lstF wantL)) := Blk.bl (t := 5) wantL (Blk.new w2 5 wantA)
  have B3 : Hid (Below w.heap.size w (w2.alloc (.cells wantA 5))) := B2.out.alloc B2.out.size _
  clear V2 B2
  generalize w2.alloc (.cells wantA 5) = w3 at *
  generalize w2.heap.size = g2 at *
  refine (read_sample w3 _ W3.out).mono ?_
  rintro e w4 ⟨A4, c1, B4, c2, rfl, h1, h2, hi, hf, hb4⟩
  have B4' := Lib.hid (B3.out.trans (hb4.mono B3.out.size))
  have I4 := Lib.hid hi
  have F4 := Lib.hid hf
  have V4 := Lib.hid (V3.out.below hb4).now
  have W4 := Lib.hid (W3.out.below hb4).now
  clear hi hf hb4 V3 W3 B3
  go_wp2_with fail
  have K5 : Hid (AK (w4.alloc (.cells #[.slice A4 1 c1, .slice B4 1 c2, .int .i64 0] 25)) w4.heap.size A4 c1 B4 c2 V cv (some ⟨g2, 0, none⟩)) := by
    have hb := (Below.refl w4.heap.size w4).alloc (Nat.le_refl _) (.cells #[.slice A4 1 c1, .slice B4 1 c2, .int .i64 0] 25)
    exact ⟨Blk.new w4 25 _, (I4.out.below hb).now, (F4.out.below hb).now, (V4.out.below hb).now, (W4.out.below hb).now, h1, h2⟩
  have B5 : Hid (Below w.heap.size w (w4.alloc (.cells #[.slice A4 1 c1, .slice B4 1 c2, .int .i64 0] 25))) := B4'.out.alloc B4'.out.size _
  clear I4 F4 V4 W4 B4'
  generalize w4.alloc (.cells #[.slice A4 1 c1, .slice B4 1 c2, .int .i64 0] 25) = w5 at *
  generalize w4.heap.size = g4 at *
  refine (read_short w5 _ K5.out.bw).mono ?_
  rintro e w6 ⟨rfl, hb6⟩
  have K6 := Lib.hid (K5.out.below hb6)
  have B6 := Lib.hid (B5.out.trans (hb6.mono B5.out.size))
  clear hb6 K5 B5
  go_upto_region 5 with fail
  have K7 : Hid (AK (w6.alloc (.cells #[.slice none 0 0, .slice none 0 0, .int .i64 0] 25)) g4 A4 c1 B4 c2 V cv (some ⟨g2, 0, none⟩)) := K6.out.below ((Below.refl _ w6).alloc (Nat.le_refl _) _)
  have B7 : Hid (Below w.heap.size w (w6.alloc (.cells #[.slice none 0 0, .slice none 0 0, .int .i64 0] 25))) := B6.out.alloc B6.out.size _
  clear K6 B6
  generalize w6.alloc (.cells #[.slice none 0 0, .slice none 0 0, .int .i64 0] 25) = w7 at *
  generalize w6.heap.size = g6 at *
  have K8 : Hid (AK w7.drew g4 A4 c1 B4 c2 V cv (some ⟨g2, 0, none⟩)) := K7.out.below (Below.refl _ w7).drew
  have B8 : Hid (Below w.heap.size w w7.drew) := B7.out.drew
  have P7 := K7.out.as
  have P8 := K8.out.as
  unfold AS at P7 P8
  go_region_held3 (fun w' => w'.cell? ⟨g4, 0, none⟩ = some (.slice A4 1 c1) ∧ w'.cell? ⟨g4, 1, none⟩ = some (.slice B4 1 c2) ∧ w'.cell? ⟨g4, 2, none⟩ = some (.int .i64 0) ∧ (convert 28 9 (.slice V 31 cv)).run Try.prog w' = .ok (.string (nameOf (slc (lstF wantL) 0 31))) w' ∧ (convert 28 9 (.slice (some ⟨g2, 0, none⟩) 31 31)).run Try.prog w' = .ok (.string (nameOf (slc (lstF wantL) 0 31))) w')
    (first | (go_keep; done) | exact P10 | exact P9 | exact P8 | exact P7)
    ((first
      | (go_at_call 22; refine (num_c _ _).mono ?_; rintro e w9 ⟨rfl, rfl⟩)
      | (have L9 := K9; have M9 := B9; go_at_call 20; refine (alive_same _ g4 A4 c1 B4 c2 V cv (some ⟨g2, 0, none⟩) L9.out I9.out F9.out).mono ?_; rintro e w10 ⟨rfl, hb10⟩; have K10 := Lib.hid (L9.out.below hb10); have B10 := Lib.hid (M9.out.trans (hb10.mono M9.out.size)); have P10 := K10.out.as; unfold AS at P10; clear hb10)
      | (go_at_call 23; refine (sample_c _).mono ?_; rintro e w9 ⟨A9, B9_, rfl, hi9, hf9, hb9⟩; have K9 := Lib.hid (K8.out.below hb9); have B9 := Lib.hid (B8.out.trans (hb9.mono B8.out.size)); have I9 := Lib.hid hi9; have F9 := Lib.hid hf9; have P9 := K9.out.as; unfold AS at P9; clear hi9 hf9 hb9)))
  go_wp2_with fail
  go_ret
  exact ⟨rfl, B10.out⟩
end Go.Proofs.Ytafhjpehkfcmjaa
