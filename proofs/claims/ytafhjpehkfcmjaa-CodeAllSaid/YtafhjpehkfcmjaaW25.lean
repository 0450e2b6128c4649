/- code's reader: function: the walk. -/
import Derived.Test.YtafhjpehkfcmjaaW24
import Derived.Deep.Cut
import Derived.StillTailTactics
set_option linter.unusedVariables false
set_option linter.unusedSimpArgs false
namespace Go.Proofs.Ytafhjpehkfcmjaa
open Go.RowKit
attribute [local go_sem ↓] Go.wp_at_zero Go.wp_at_succ
/-- A head as the plain reader takes it. -/
def FnG (mm : Nat) (fs : List Fn) (f : Fn) : Prop :=
  f.first = firstL fs ∧ 2 ≤ f.frame ∧ f.frame ≤ 1099511627776 ∧ 1 ≤ f.count ∧ f.count ≤ 4294967295 ∧ 0 ≤ f.params ∧ f.params ≤ (if fs.length = mm then 0 else 8) ∧ NameOk f.name ∧ ∀ g, g ∈ fs → g.name ≠ f.name
def FunPost (w : World) (H : Nat) (G : Nat → Prop) (A : Option Addr) (L c : Nat) (Bf : Nat → UInt8) (r mb : Nat) (iv : Value) (xs : List Ins) (fs : List Fn) (p : Nat) (m : Int) (mm : Nat) (e : Ending) (w' : World) : Prop :=
  e = .returned (.tuple #[]) ∧ ∃ fv' fs' p' bad', RM w' H G A L c Bf r mb iv fv' xs fs' fs'.length (nameIn fs') p' bad' m ∧ Below H w w' ∧ p' ≤ L ∧
    ((bad' = true ∧ ∀ k, run Bf L (pFn mm fs k) p = .bad p') ∨ (bad' = false ∧ p + 15 ≤ p' ∧ ∃ f, fs' = fs ++ [f] ∧ FnG mm fs f ∧ ∀ k, run Bf L (pFn mm fs k) p = run Bf L (k f) p'))
theorem FT.start {w : World} {H : Nat} {G : Nat → Prop} {A : Option Addr} {L c : Nat} {Bf : Nat → UInt8} {r mb : Nat} {iv fv : Value} {xs : List Ins} {fs : List Fn} {mn : Nat} {mf : List UInt8 → Bool} {p : Nat} {bad : Bool} {m : Int} (h : RM w H G A L c Bf r mb iv fv xs fs mn mf p bad m) (ff : Array Value) : FT w (w.alloc (.cells ff 53)) H G A L c Bf r mb iv fv xs fs mn mf p bad m w.heap.size ff := by
  have hlt := h.b.lt
  have hr := h.hr
  exact ⟨h.quiet ((Only.refl _ w).alloc _), Blk.new w 53 ff, fun e => by have := (World.ownsRow.lt h.fm _ e).2; omega, (Below.refl H w).alloc (by omega) _, by omega⟩
/-- What the name's field and its test do. -/
def NamR (Bf : Nat → UInt8) (L p u : Nat) (fs : List Fn) (s : ByteArray) (p' : Nat) (bad' : Bool) : Prop :=
  (bad' = true ∧ ∀ k, run Bf L (.need u (fun l => NameOk (nameOf l) ∧ ∀ f, f ∈ fs → f.name ≠ nameOf l) k) p = .bad p') ∨ (bad' = false ∧ p' = p + u ∧ p + u ≤ L ∧ s = nameOf (slc Bf p u) ∧ NameOk s ∧ (∀ f, f ∈ fs → f.name ≠ s) ∧ ∀ k, run Bf L (.need u (fun l => NameOk (nameOf l) ∧ ∀ f, f ∈ fs → f.name ≠ nameOf l) k) p = run Bf L (k (slc Bf p u)) p')
theorem slc_zero_at {S Bf : Nat → UInt8} {p n : Nat} (h : ∀ i, i < n → S i = Bf (p + i)) : slc S 0 n = slc Bf p n := by
  unfold slc
  exact List.map_congr_left fun i hi => by rw [Nat.zero_add]; exact h i (List.mem_range.1 hi)
theorem nameOf_size (S : Nat → UInt8) (p n : Nat) : (nameOf (slc S p n)).size = n := by
  show (slc S p n).toArray.size = n
  rw [List.size_toArray, slc_length]
def TestR (t bad tw : Bool) (s : ByteArray) : Prop := t = true ↔ bad = false ∧ ¬ (NameOk s ∧ tw = false)
theorem namR_at {Bf : Nat → UInt8} {L p u : Nat} {fs : List Fn} {s : ByteArray} {p2 : Nat} {bad2 tw t : Bool} (h : (bad2 = true ∧ ∀ k, run Bf L (.need u (fun l => NameOk (nameOf l) ∧ ∀ f, f ∈ fs → f.name ≠ nameOf l) k) p = .bad p2) ∨ (bad2 = false ∧ p + u ≤ L ∧ p2 = p + u ∧ s = nameOf (slc Bf p u))) (htw : nameIn fs s.data.toList = tw) (ht : TestR t bad2 tw s) :
    (t = true → p2 = p + u ∧ NamR Bf L p u fs s p true) ∧ (t = false → NamR Bf L p u fs s p2 bad2) := by
  rcases h with ⟨rfl, h⟩ | ⟨rfl, h1, rfl, rfl⟩
  · exact ⟨fun e => (by have := ht.1 e; cases this.1), fun _ => .inl ⟨rfl, h⟩⟩
  · refine ⟨fun e => ⟨rfl, .inl ⟨rfl, fun k => run_wrong h1 fun ho => (ht.1 e).2 ⟨ho.1, ?_⟩⟩⟩, fun e => ?_⟩
    · cases tw with
      | false => rfl
      | true =>
        obtain ⟨f, hf, he⟩ := (nameIn_iff fs _).1 htw
        exact absurd he (ho.2 f hf)
    · have hn : NameOk (nameOf (slc Bf p u)) ∧ tw = false := by
        refine Classical.byContradiction fun hc => ?_
        have := ht.2 ⟨rfl, hc⟩
        rw [e] at this; cases this
      have hd : ∀ f, f ∈ fs → f.name ≠ nameOf (slc Bf p u) := fun f hf he => by
        have := (nameIn_iff fs _).2 ⟨f, hf, he⟩
        rw [htw, hn.2] at this; cases this
      exact .inr ⟨rfl, rfl, h1, rfl, hn.1, hd, fun k => run_step h1 ⟨hn.1, hd⟩⟩
def mostOf (k mm : Nat) : Nat := if k = mm then 0 else 8
theorem fun_plain {Bf : Nat → UInt8} {L p u mm : Nat} {fs : List Fn} {s : ByteArray} {p3 p7 p8 p9 : Nat} {bad3 bad7 bad8 bad9 : Bool} {v7 v8 v9 : Int} (hu1 : 1 ≤ u) (hRU : ∀ k, run Bf L (pNum 1 1 64 k) p = run Bf L (k u) (p + 1)) (hN : NamR Bf L (p + 1) u fs s p3 bad3)
    (R7 : NumR Bf L 8 2 1099511627776 p3 bad3 p7 bad7 v7) (R8 : NumR Bf L 4 1 4294967295 p7 bad7 p8 bad8 v8) (R9 : NumR Bf L 1 0 (mostOf fs.length mm) p8 bad8 p9 bad9 v9) :
    (bad9 = true ∧ ∀ k, run Bf L (pFn mm fs k) p = .bad p9) ∨ (bad9 = false ∧ p + 15 ≤ p9 ∧ FnG mm fs ⟨s, v7, firstL fs, v8, v9⟩ ∧ ∀ k, run Bf L (pFn mm fs k) p = run Bf L (k ⟨s, v7, firstL fs, v8, v9⟩) p9) := by
  have e0 : ∀ k, run Bf L (pFn mm fs k) p = run Bf L (.need u (fun l => NameOk (nameOf l) ∧ ∀ f, f ∈ fs → f.name ≠ nameOf l) fun l => pNum 8 2 1099511627776 fun fr => pNum 4 1 4294967295 fun cn => pNum 1 0 (if fs.length = mm then 0 else 8) fun pa => k ⟨nameOf l, fr, firstL fs, cn, pa⟩) (p + 1) := fun k => hRU _
  rcases hN with ⟨rfl, h3⟩ | ⟨rfl, rfl, hL3, rfl, hn, hd, h3⟩
  · rcases R7 with ⟨_, rfl, rfl⟩ | ⟨h, _⟩ | ⟨h, _⟩
    · rcases R8 with ⟨_, rfl, rfl⟩ | ⟨h, _⟩ | ⟨h, _⟩
      · rcases R9 with ⟨_, rfl, rfl⟩ | ⟨h, _⟩ | ⟨h, _⟩
        · exact .inl ⟨rfl, fun k => (e0 k).trans (h3 _)⟩
        · cases h
        · cases h
      · cases h
      · cases h
    · cases h
    · cases h
  · have e1 := fun k => (e0 k).trans (h3 _)
    rcases R7 with ⟨h, _⟩ | ⟨_, rfl, _, h7⟩ | ⟨_, rfl, rfl, hL7, fr, rfl, f1, f2, _, h7⟩
    · cases h
    · rcases R8 with ⟨_, rfl, rfl⟩ | ⟨h, _⟩ | ⟨h, _⟩
      · rcases R9 with ⟨_, rfl, rfl⟩ | ⟨h, _⟩ | ⟨h, _⟩
        · exact .inl ⟨rfl, fun k => (e1 k).trans (h7 _)⟩
        · cases h
        · cases h
      · cases h
      · cases h
    · have e2 := fun k => (e1 k).trans (h7 _)
      rcases R8 with ⟨h, _⟩ | ⟨_, rfl, _, h8⟩ | ⟨_, rfl, rfl, hL8, cn, rfl, g1, g2, _, h8⟩
      · cases h
      · rcases R9 with ⟨_, rfl, rfl⟩ | ⟨h, _⟩ | ⟨h, _⟩
        · exact .inl ⟨rfl, fun k => (e2 k).trans (h8 _)⟩
        · cases h
        · cases h
      · have e3 := fun k => (e2 k).trans (h8 _)
        have hm : mostOf fs.length mm ≤ 8 := by unfold mostOf; split <;> omega
        rcases R9 with ⟨h, _⟩ | ⟨_, rfl, _, h9⟩ | ⟨_, rfl, rfl, hL9, pa, rfl, k1, k2, _, h9⟩
        · cases h
        · exact .inl ⟨rfl, fun k => (e3 k).trans (h9 _)⟩
        · have w1 : IntKind.i64.wrap (fr : Int) = fr := wrap_i64 ⟨by omega, by omega⟩
          have w2 : IntKind.i64.wrap (cn : Int) = cn := wrap_i64 ⟨by omega, by omega⟩
          have w3 : IntKind.i64.wrap (pa : Int) = pa := wrap_i64 ⟨by omega, by omega⟩
          rw [w1, w2, w3]
          refine .inr ⟨rfl, by omega, ⟨rfl, by show (2 : Int) ≤ fr; omega, by show (fr : Int) ≤ _; omega, by show (1 : Int) ≤ cn; omega, by show (cn : Int) ≤ _; omega, by show (0 : Int) ≤ pa; omega, ?_, hn, hd⟩, fun k => (e3 k).trans (h9 _)⟩
          show (pa : Int) ≤ if fs.length = mm then 0 else 8
          unfold mostOf at k2
          split at k2 <;> rename_i hq <;> simp [hq] <;> omega
theorem FT.append {w0 w w1 : World} {H : Nat} {G : Nat → Prop} (hG : ∀ b, G b → b < H) {A : Option Addr} {L c : Nat} {Bf : Nat → UInt8} {r mb : Nat} {iv fv : Value} {xs : List Ins} {fs : List Fn} {p : Nat} {bad : Bool} {m : Int} {g : Nat} {ff : Array Value} {f : Fn}
    (h : FT w0 w H G A L c Bf r mb iv fv xs fs (fs.length + 1) (fun l => if l = f.name.data.toList then true else nameIn fs l) p bad m g ff) {ob : Obj} {nv : Value} (hown : w1.ownsRow H 53 5 nv (fs.length + 1) (fnCells fs ++ fnCells [f])) (hg : (w.alloc ob).drew.grownBy w1 fv.ownBlock) :
    RM (w1.setCell ⟨r, 4, none⟩ nv) H G A L c Bf r mb iv nv xs (fs ++ [f]) (fs ++ [f]).length (nameIn (fs ++ [f])) p bad m ∧ Below H w0 (w1.setCell ⟨r, 4, none⟩ nv) := by
  have hm := h.rm
  have o0 : Only (fun _ => False) w (w.alloc ob).drew := ((Only.refl _ w).alloc ob).drew
  have h2 := hm.quiet o0
  have o1 : Only (fun b => fv.ownBlock = some b) (w.alloc ob).drew w1 := (Only.refl _ _).grown hg fun j hj => .inl hj
  have hfl := fun b hb => World.ownsRow.lt h2.fm b hb
  have b1 : Blk w1 r 67 (rcells (.slice A L c) p bad iv fv m mb) := h2.b.only o1 (fun e => own_blk_ne h2.fm h2.b (by decide) e)
  have o2 : Only (fun b => b = r) w1 (w1.setCell ⟨r, 4, none⟩ nv) := (Only.refl (fun b => b = r) w1).setCell (.inl rfl) _
  have hr := h2.hr
  have hlt1 := b1.lt
  have hlt := h2.b.lt
  have bl1 : BL w1 G A L Bf := h2.bl.only o1 (fun b _ hb e => by have := hG b hb; have := (hfl b e).1; omega)
  have im1 : IR w1 H iv xs := own_only h2.im o1 (fun b hb => own_ne_own h2.im h2.fm (by decide) b hb)
  have mp1 := h2.mp.only o1 (fun e => h2.mp.ne_own h2.fm e)
  have fm1 : FR w1 H nv (fs ++ [f]) := by
    unfold FR
    rw [fnCells_append, List.length_append]
    exact hown
  have bw : Below H w0 (w.alloc ob).drew := (h.bw.trans (o0.toBelow (by have := hm.b.lt; omega) fun _ _ h => h))
  refine ⟨⟨b1.set_ 4 nv, bl1.only o2 (fun b _ hb e => by have := hG b hb; omega), own_only im1 o2 (fun b hb e => own_blk_ne im1 b1 (by decide) (e ▸ hb)), own_only fm1 o2 (fun b hb e => own_blk_ne fm1 b1 (by decide) (e ▸ hb)), ?_, hm.hr, hm.hmb⟩, (bw.trans (o1.toBelow (by omega) fun k hk e => by have := (hfl k e).1; omega)).trans (o2.toBelow (by omega) fun k hk e => by omega)⟩
  rw [List.length_append]
  exact (mp1.only o2 (fun e => mp1.ne_blk b1 e)).congr (nameIn_snoc fs f)
theorem fn_info : ∃ i, Try.prog.info? 53 = some i ∧ i.zero = some (.agg #[.string ⟨#[]⟩, .int .i64 0, .int .i64 0, .int .i64 0, .int .i64 0]) ∧ i.size = 5 ∧ i.bytes = 48 := info_of (by kernel_rfl)
set_option maxRecDepth 100000 in
set_option maxHeartbeats 32000000 in
theorem rdfun_c (w : World) (H : Nat) (G : Nat → Prop) (hG : ∀ b, G b → b < H) (A : Option Addr) (L c : Nat) (Bf : Nat → UInt8) (r mb : Nat) (iv fv : Value) (xs : List Ins) (fs : List Fn) (p : Nat) (m : Int) (mm : Nat) (mn : Bool) (h : RM w H G A L c Bf r mb iv fv xs fs fs.length (nameIn fs) p false m) (hp : p ≤ L) (hL : L ≤ 300000000) (hc : L ≤ c) (hc2 : c ≤ 9223372036854775807) (hmn : mn = decide (fs.length = mm)) (hfs : fs.length ≤ 300000000) (hf0 : 0 ≤ firstL fs) (hf1 : firstL fs ≤ 2000000000000000000) (hlast : ∀ fs0 l, fs = fs0 ++ [l] → l.first = firstL fs0 ∧ 0 ≤ l.count ∧ l.count ≤ 4294967295 ∧ 0 ≤ l.first) :
    Calls Try.prog 29 #[.pointer (some ⟨r, 0, none⟩), .bool mn] w (FunPost w H G A L c Bf r mb iv xs fs p m mm) := by
  have HG := Lib.hid hG
  have S0 := Lib.hid (FT.start h #[.string ⟨#[]⟩, .int .i64 0, .int .i64 0, .int .i64 0, .int .i64 0])
  obtain ⟨FA, fcap, rfl, hle, hcm, hform⟩ := own_shape h.fm
  have c4 : (w.alloc (.cells #[.string ⟨#[]⟩, .int .i64 0, .int .i64 0, .int .i64 0, .int .i64 0] 53)).cell? ⟨r, 4, none⟩ = some (.slice FA fs.length fcap) := S0.out.rm.b.cell 4
  have hrl := S0.out.rm.b.lt
  unfold maxLen at hcm
  have HLAST : Hid (∀ fs0 l, fs = fs0 ++ [l] → l.first = firstL fs0 ∧ 0 ≤ l.count ∧ l.count ≤ 4294967295 ∧ 0 ≤ l.first) := hlast
  have HMN := Lib.hid hmn
  have HF := Lib.hid hform
  have HRM := Lib.hid h
  have hne : r ≠ w.heap.size := by have := h.b.lt; omega
  have hrw := h.b.lt
  clear h hG hlast hmn hform
  go_enter Try.func29, Try.ntmps29
  go_upto_if 19 with fail
  go_cut [6] from 20 (fun x6 wx => Hid (FT w wx H G A L c Bf r mb iv (.slice FA fs.length fcap) xs fs fs.length (nameIn fs) p false m w.heap.size #[.string ⟨#[]⟩, .int .i64 0, .int .i64 (firstL fs), .int .i64 0, .int .i64 0]))
  case first =>
    rcases List.eq_nil_or_concat fs with rfl | ⟨fs0, l, rfl⟩
    · have E : Hid (FT w (w.alloc (.cells #[.string ⟨#[]⟩, .int .i64 0, .int .i64 0, .int .i64 0, .int .i64 0] 53)) H G A L c Bf r mb iv (.slice FA ([] : List Fn).length fcap) xs ([] : List Fn) ([] : List Fn).length (nameIn ([] : List Fn)) p false m w.heap.size #[.string ⟨#[]⟩, .int .i64 0, .int .i64 (firstL []), .int .i64 0, .int .i64 0]) := S0.out
      clear S0 HLAST HF HRM
      go_wp2_with fail
      go_meet
      case rel => exact E
    · have hlen : (fs0.concat l).length = fs0.length + 1 := by simp
      obtain ⟨g, rfl, hg, hgl, _⟩ := HF.out (by omega)
      obtain ⟨l1, l2, l3, l4⟩ := HLAST.out fs0 l (by simp)
      have hcell := FR.cells HRM.out.fm fs0.length (by omega)
      have hfn : fnF (fs0.concat l) fs0.length = l := by simp [fnF]
      rw [hfn] at hcell
      obtain ⟨k0, k1, k2, k3, k4⟩ := hcell
      have e : Hid (wrap64 (firstL fs0 + l.count) = firstL (fs0.concat l)) := by
        show _ = _
        rw [List.concat_eq_append, firstL_snoc]
        rw [List.concat_eq_append, firstL_snoc] at hf1
        exact IntWalk.wrap64_in _ ⟨by omega, by omega⟩
      clear S0 HLAST HF
      go_wp2_with fail
      go_meet
      case rel =>
        rw [e.out]
        exact (FT.start HRM.out _).quiet ((Only.refl _ _).alloc _)
  case rest =>
    clear c4 hrl S0 HLAST HF
    have S1 : Hid (FT w wc H G A L c Bf r mb iv (.slice FA fs.length fcap) xs fs fs.length (nameIn fs) p false m w.heap.size #[.string ⟨#[]⟩, .int .i64 0, .int .i64 (firstL fs), .int .i64 0, .int .i64 0]) := hcut
    have N1 := Lib.hid (S1.out.number HG.out hp hL hc hc2 (n := 1) (lo := 1) (hi := 64) (by omega) (by omega) (by omega) (by omega) (ni := 1) (li := 1) (hi' := 64) rfl rfl rfl)
    clear hcut
    go_upto_if 40 with (first | (go_at_call 28; refine N1.out.mono ?_; rintro e w1 ⟨v1, p1, bad1, rfl, hv1, hS2, hp1, hR1⟩; have S2 := Lib.hid hS2; have R1 := Lib.hid hR1; have a2 : w1.cell? ⟨r, 2, none⟩ = some (.bool bad1) := S2.out.rm.b.cell 2; have hr1 := S2.out.rm.b.lt; clear hS2 hR1))
    cases bad1 with
    | true =>
      have E : Hid (FunPost w H G A L c Bf r mb iv xs fs p m mm (.returned (.tuple #[])) w1) := by
        refine ⟨rfl, _, fs, p1, true, S2.out.rm, S2.out.bw, hp1, .inl ⟨rfl, fun k => ?_⟩⟩
        rcases R1.out with ⟨h, _⟩ | ⟨_, _, _, h⟩ | ⟨_, h, _⟩
        · cases h
        · exact h _
        · cases h
      clear S1 S2 R1 N1
      go_wp2_with fail
      go_end0
      exact E.out
    | false =>
      obtain ⟨u, hu1, hu2, rfl, rfl, hRU⟩ : ∃ u : Nat, 1 ≤ u ∧ u ≤ 64 ∧ v1 = (u : Int) ∧ p1 = p + 1 ∧ Hid (∀ k, run Bf L (pNum 1 1 64 k) p = run Bf L (k u) (p + 1)) := by
        rcases R1.out with ⟨h, _⟩ | ⟨_, h, _⟩ | ⟨_, _, rfl, _, u, rfl, h1, h2, _, h3⟩
        · cases h
        · cases h
        · exact ⟨u, h1, h2, wrap_i64 ⟨by omega, by omega⟩, rfl, h3⟩
      have FD := Lib.hid (S2.out.field HG.out hp1 hL hc hc2 (n := u) hu1 hu2)
      clear R1 N1 S1 a2
      go_upto_region 8 with (first | (go_at_call 39; refine FD.out.mono ?_; rintro e w2 ⟨D, S, p2, bad2, rfl, hS3, hp2, hD, hR2⟩; have S3 := Lib.hid hS3; have R2 := Lib.hid hR2; have CV := bytes_string (c := u) hD hu1; have zz : ∀ j, w2.frozen? ⟨w.heap.size, j, none⟩ = false := S3.out.fb.frozen; have hl2 := S3.out.fb.lt; have zc : w2.cell? ⟨w.heap.size, 0, none⟩ = some (.string ⟨#[]⟩) := S3.out.fb.cell 0; clear hS3 hR2 hD))
      have hsz : (nameOf (slc S 0 u)).size = u := nameOf_size S 0 u
      have R3 : Hid ((bad2 = true ∧ ∀ k, run Bf L (.need u (fun l => NameOk (nameOf l) ∧ ∀ f, f ∈ fs → f.name ≠ nameOf l) k) (p + 1) = .bad p2) ∨ (bad2 = false ∧ p + 1 + u ≤ L ∧ p2 = p + 1 + u ∧ nameOf (slc S 0 u) = nameOf (slc Bf (p + 1) u))) := by
        rcases R2.out with ⟨h, _⟩ | ⟨_, h1, rfl, rfl⟩ | ⟨_, h1, rfl, rfl, h2⟩
        · cases h
        · exact .inl ⟨rfl, fun k => run_lack h1⟩
        · exact .inr ⟨rfl, h1, rfl, by rw [slc_zero_at h2]⟩
      have S4 : Hid (FT w (w2.setCell ⟨w.heap.size, 0, none⟩ (.string (nameOf (slc S 0 u)))) H G A L c Bf r mb iv (.slice FA fs.length fcap) xs fs fs.length (nameIn fs) p2 bad2 m w.heap.size #[.string (nameOf (slc S 0 u)), .int .i64 0, .int .i64 (firstL fs), .int .i64 0, .int .i64 0]) := S3.out.put HG.out 0 _
      clear S2 S3 CV zz zc hl2 FD R2
      generalize nameOf (slc S 0 u) = s at *
      generalize w2.setCell ⟨w.heap.size, 0, none⟩ (.string s) = w3 at *
      obtain ⟨cf, hlook⟩ := S4.out.rm.mp.look_all Try.underlying65 Try.underlying9 Try.underlying3 (fun _ => by rfl) (s := s) (by unfold maxLen; omega)
      obtain ⟨tw, HTW⟩ : ∃ tw, Hid (nameIn fs s.data.toList = tw) := ⟨_, rfl⟩
      rw [HTW.out] at hlook
      have a0 : w3.cell? ⟨w.heap.size, 0, none⟩ = some (.string s) := S4.out.fb.cell 0
      have a6 : w3.cell? ⟨r, 6, none⟩ = some (.map (some mb)) := S4.out.rm.b.cell 6
      have a2 : w3.cell? ⟨r, 2, none⟩ = some (.bool bad2) := S4.out.rm.b.cell 2
      have hl3 := S4.out.fb.lt
      have hr3 := S4.out.rm.b.lt
      have S5 : Hid (∀ k, FT w (w3.drewN k) H G A L c Bf r mb iv (.slice FA fs.length fcap) xs fs fs.length (nameIn fs) p2 bad2 m w.heap.size #[.string s, .int .i64 0, .int .i64 (firstL fs), .int .i64 0, .int .i64 0]) := fun k => S4.out.quiet ((Only.refl _ _).drewN k)
      have NC := Lib.hid (fun w' => cname_c s (by omega) w')
      clear S4
      go_quiet (fail)
      go_upto_region 9 with fail
      go_cut [69] from 56 (fun x69 wx => ∃ t, x69 = .bool t ∧ Hid (FT w wx H G A L c Bf r mb iv (.slice FA fs.length fcap) xs fs fs.length (nameIn fs) p2 bad2 m w.heap.size #[.string s, .int .i64 0, .int .i64 (firstL fs), .int .i64 0, .int .i64 0]) ∧ Hid (TestR t bad2 tw s))
      case first =>
        cases bad2 with
        | true =>
          go_wp2_with fail
          go_meet
          case rel => exact ⟨false, by first | rfl | trivial, S5.out _, show TestR _ _ _ _ from Iff.intro (fun h => by cases h) (fun h => by cases h.1)⟩
        | false =>
          cases tw with
          | true =>
            go_wp2_with fail
            go_meet
            case rel => exact ⟨true, by first | rfl | trivial, S5.out _, show TestR _ _ _ _ from Iff.intro (fun _ => ⟨rfl, fun h => by cases h.2⟩) (fun _ => rfl)⟩
          | false =>
            go_wp2_with (first | (go_at_call 40; refine (NC.out _).mono ?_; rintro e w4 ⟨r0, rfl, hr0, hw4⟩; subst hw4; have HR0 := Lib.hid hr0; clear hr0))
            go_meet
            case rel => exact ⟨!r0, by first | rfl | trivial, S5.out _, by have := HR0.out; show TestR _ _ _ _; unfold TestR; cases r0 <;> simp_all⟩
      case rest =>
        obtain ⟨t, rfl, S6, HT⟩ := hcut
        have NR := Lib.hid (namR_at R3.out HTW.out HT.out)
        have a1 : wc.cell? ⟨r, 1, none⟩ = some (.int .i64 (p2 : Int)) := S6.out.rm.b.cell 1
        have zr : ∀ j, wc.frozen? ⟨r, j, none⟩ = false := S6.out.rm.b.frozen
        have a2' : wc.cell? ⟨r, 2, none⟩ = some (.bool bad2) := S6.out.rm.b.cell 2
        have hr4 := S6.out.rm.b.lt
        have FAULT := Lib.hid (fun q => S6.out.fault HG.out q)
        clear HT R3 S5 NC hlook a0 a6 a2 hl3 hr3 HRM
        go_upto_if 69 with fail
        go_cut [] from 70 (fun wx => ∃ p3 bad3, Hid (FT w wx H G A L c Bf r mb iv (.slice FA fs.length fcap) xs fs fs.length (nameIn fs) p3 bad3 m w.heap.size #[.string s, .int .i64 0, .int .i64 (firstL fs), .int .i64 0, .int .i64 0]) ∧ p3 ≤ L ∧ Hid (NamR Bf L (p + 1) u fs s p3 bad3))
        case first =>
          cases t with
          | true =>
            obtain ⟨hpe, hNR⟩ := NR.out.1 rfl
            have e1 : Hid ((p2 : Int) - (u : Int) = ((p + 1 : Nat) : Int)) := by show _ = _; omega
            have HNR := Lib.hid hNR
            clear NR hNR
            go_wp2_with fail
            go_meet
            case rel =>
              refine ⟨p + 1, true, ?_, by omega, HNR⟩
              first | rw [e1.out] | rw [show (p : Int) + 1 = ((p + 1 : Nat) : Int) from by omega]
              exact FAULT.out (p + 1)
          | false =>
            have HNR := Lib.hid (NR.out.2 rfl)
            clear NR FAULT
            go_wp2_with fail
            go_meet
            case rel => exact ⟨p2, bad2, S6, hp2, HNR⟩
        case rest =>
          obtain ⟨p3, bad3, S7, hp3, HNR⟩ := hcut
          have b0 : wc.cell? ⟨w.heap.size, 0, none⟩ = some (.string s) := S7.out.fb.cell 0
          have b6 : wc.cell? ⟨r, 6, none⟩ = some (.map (some mb)) := S7.out.rm.b.cell 6
          have b4 : wc.cell? ⟨r, 4, none⟩ = some (.slice FA fs.length fcap) := S7.out.rm.b.cell 4
          have hl5 := S7.out.fb.lt
          have hr5 := S7.out.rm.b.lt
          clear a1 a2' zr hr4 FAULT NR S6 hp2 HTW hr1 hp1
          go_upto_region 11 with fail
          go_still_tail 12, (by kernel_rfl)
          change wpList _ _ _ _ _ wc.drew
          have S8 : Hid (FT w wc.drew H G A L c Bf r mb iv (.slice FA fs.length fcap) xs fs fs.length (nameIn fs) p3 bad3 m w.heap.size #[.string s, .int .i64 0, .int .i64 (firstL fs), .int .i64 0, .int .i64 0]) := S7.out.quiet ((Only.refl _ _).drew)
          have MP := Lib.hid S8.out.rm.mp
          have hsz2 : s.size ≤ maxLen := by unfold maxLen; omega
          have hkk : i64in (fs.length : Int) := ⟨by omega, by omega⟩
          have hnl : fs.length < maxLen := by unfold maxLen; omega
          have MPUT := Lib.hid (fun (w2 : World) mn' mf' hm hg => S8.out.mput HG.out (w' := w2) (mn' := mn') (mf' := mf') hm hg)
          have K8 : Hid (∀ w' p' b' ff', FT w w' H G A L c Bf r mb iv (.slice FA fs.length fcap) xs fs (fs.length + 1) (fun l => if l = s.data.toList then true else nameIn fs l) p' b' m w.heap.size ff' → p' ≤ L → Calls Try.prog 28 #[.pointer (some ⟨r, 0, none⟩), .int .i64 8, .int .u64 2, .int .u64 1099511627776] w' fun e w2 => ∃ v p2 bad2, e = .returned (.int .i64 v) ∧ i64in v ∧ FT w w2 H G A L c Bf r mb iv (.slice FA fs.length fcap) xs fs (fs.length + 1) (fun l => if l = s.data.toList then true else nameIn fs l) p2 bad2 m w.heap.size ff' ∧ p2 ≤ L ∧ NumR Bf L 8 2 1099511627776 p' b' p2 bad2 v) :=
            fun w' p' b' ff' h hp' => h.number HG.out hp' hL hc hc2 (by omega) (by omega) (by omega) (by omega) rfl rfl rfl
          have K4 : Hid (∀ w' p' b' ff', FT w w' H G A L c Bf r mb iv (.slice FA fs.length fcap) xs fs (fs.length + 1) (fun l => if l = s.data.toList then true else nameIn fs l) p' b' m w.heap.size ff' → p' ≤ L → Calls Try.prog 28 #[.pointer (some ⟨r, 0, none⟩), .int .i64 4, .int .u64 1, .int .u64 4294967295] w' fun e w2 => ∃ v p2 bad2, e = .returned (.int .i64 v) ∧ i64in v ∧ FT w w2 H G A L c Bf r mb iv (.slice FA fs.length fcap) xs fs (fs.length + 1) (fun l => if l = s.data.toList then true else nameIn fs l) p2 bad2 m w.heap.size ff' ∧ p2 ≤ L ∧ NumR Bf L 4 1 4294967295 p' b' p2 bad2 v) :=
            fun w' p' b' ff' h hp' => h.number HG.out hp' hL hc hc2 (by omega) (by omega) (by omega) (by omega) rfl rfl rfl
          have most_le : mostOf fs.length mm ≤ 8 := by unfold mostOf; split <;> omega
          have HMOST : Hid (∀ most : Nat, most ≤ 8 → ∀ w' p' b' ff', FT w w' H G A L c Bf r mb iv (.slice FA fs.length fcap) xs fs (fs.length + 1) (fun l => if l = s.data.toList then true else nameIn fs l) p' b' m w.heap.size ff' → p' ≤ L → Calls Try.prog 28 #[.pointer (some ⟨r, 0, none⟩), .int .i64 1, .int .u64 0, .int .u64 (most : Int)] w' fun e w2 => ∃ v p2 bad2, e = .returned (.int .i64 v) ∧ i64in v ∧ FT w w2 H G A L c Bf r mb iv (.slice FA fs.length fcap) xs fs (fs.length + 1) (fun l => if l = s.data.toList then true else nameIn fs l) p2 bad2 m w.heap.size ff' ∧ p2 ≤ L ∧ NumR Bf L 1 0 most p' b' p2 bad2 v) :=
            fun most hm w' p' b' ff' h hp' => h.number HG.out hp' hL hc hc2 (by omega) (by omega) (by omega) (by omega) rfl rfl rfl
          clear S7
          generalize wc.drew = w5 at *
          go_upto_if 100 with (first
            | (at_mapUpdate; go_must (refine wpList_sput rfl (.tmp 85) (.tmp 87) (.tmp 93) 65 rfl Try.underlying65 Try.underlying9 Try.underlying3 MP.out rfl hnl s _ rfl rfl hsz2 hkk ?_); go_must (intro w6 hm6 hg6; have S9 := Lib.hid (MPUT.out _ _ _ hm6 hg6); clear hm6 hg6))
            | (have X10 := S10; go_at_call 28; refine (K4.out _ _ _ _ (X10.out.put HG.out 1 _) hp7).mono ?_; rintro e w8 ⟨v8, p8, bad8, rfl, hv8, hS11, hp8, hR8⟩; have S11 := Lib.hid hS11; have R8 := Lib.hid hR8; have zw8 : ∀ j, w8.frozen? ⟨w.heap.size, j, none⟩ = false := S11.out.fb.frozen; have yw83 : w8.cell? ⟨w.heap.size, 3, none⟩ = some (.int .i64 0) := S11.out.fb.cell 3; have hlw8 := S11.out.fb.lt; clear hS11 hR8)
            | (have X9 := S9; go_at_call 28; refine (K8.out _ _ _ _ X9.out hp3).mono ?_; rintro e w7 ⟨v7, p7, bad7, rfl, hv7, hS10, hp7, hR7⟩; have S10 := Lib.hid hS10; have R7 := Lib.hid hR7; have zw7 : ∀ j, w7.frozen? ⟨w.heap.size, j, none⟩ = false := S10.out.fb.frozen; have yw71 : w7.cell? ⟨w.heap.size, 1, none⟩ = some (.int .i64 0) := S10.out.fb.cell 1; have hlw7 := S10.out.fb.lt; clear hS10 hR7))
          have S12 : Hid (FT w (w8.setCell ⟨w.heap.size, 3, none⟩ (.int .i64 v8)) H G A L c Bf r mb iv (.slice FA fs.length fcap) xs fs (fs.length + 1) (fun l => if l = s.data.toList then true else nameIn fs l) p8 bad8 m w.heap.size #[.string s, .int .i64 v7, .int .i64 (firstL fs), .int .i64 v8, .int .i64 0]) := S11.out.put HG.out 3 _
          have HM1 : Hid (mn = true → mostOf fs.length mm = 0) := fun h => by rw [HMN.out] at h; exact if_pos (of_decide_eq_true h)
          have HM0 : Hid (mn = false → mostOf fs.length mm = 8) := fun h => by rw [HMN.out] at h; exact if_neg (of_decide_eq_false h)
          clear S8 S9 S10 S11 MP MPUT K8 K4 X9 X10 b0 b6 b4 hl5 hr5 zw7 zw8 yw71 yw83 hlw7 hlw8 hsz2 hkk HMN
          generalize w8.setCell ⟨w.heap.size, 3, none⟩ (.int .i64 v8) = wa at *
          generalize hmo : mostOf fs.length mm = most at *
          have HMO := Lib.hid hmo
          clear hmo
          go_cut [10] from 101 (fun x10 wx => x10 = .int .u64 (most : Int) ∧ Hid (FT w wx H G A L c Bf r mb iv (.slice FA fs.length fcap) xs fs (fs.length + 1) (fun l => if l = s.data.toList then true else nameIn fs l) p8 bad8 m w.heap.size #[.string s, .int .i64 v7, .int .i64 (firstL fs), .int .i64 v8, .int .i64 0]))
          case first =>
            cases mn with
            | true =>
              have e := HM1.out rfl
              clear HM0 HM1 HMOST most_le
              subst e
              go_wp2_with fail
              go_meet
              case rel => exact ⟨by first | rfl | trivial, S12⟩
            | false =>
              have e := HM0.out rfl
              clear HM0 HM1 HMOST most_le
              subst e
              go_wp2_with fail
              go_meet
              case rel => exact ⟨by first | rfl | trivial, S12⟩
          case rest =>
            obtain ⟨rfl, S12'⟩ := hcut
            clear S12
            go_upto_region 18 with (first
              | (go_at_call 28; refine (HMOST.out _ most_le _ _ _ _ S12'.out hp8).mono ?_; rintro e w9 ⟨v9, p9, bad9, rfl, hv9, hS13, hp9, hR9⟩; have S13 := Lib.hid hS13; have R9 := Lib.hid hR9; have zw9 : ∀ j, w9.frozen? ⟨w.heap.size, j, none⟩ = false := S13.out.fb.frozen; have yw94 : w9.cell? ⟨w.heap.size, 4, none⟩ = some (.int .i64 0) := S13.out.fb.cell 4; have hlw9 := S13.out.fb.lt; clear hS13 hR9))
            have S14 : Hid (FT w (w9.setCell ⟨w.heap.size, 4, none⟩ (.int .i64 v9)) H G A L c Bf r mb iv (.slice FA fs.length fcap) xs fs (fs.length + 1) (fun l => if l = s.data.toList then true else nameIn fs l) p9 bad9 m w.heap.size #[.string s, .int .i64 v7, .int .i64 (firstL fs), .int .i64 v8, .int .i64 v9]) := S13.out.put HG.out 4 _
            rw [← HMO.out] at R9
            have PL := Lib.hid (fun_plain hu1 hRU.out HNR.out R7.out R8.out R9.out)
            have FIN : Hid (∀ (w1 : World) (nv : Value), w1.ownsRow H 53 5 nv (fs.length + 1) (fnCells fs ++ [.string s, .int .i64 v7, .int .i64 (firstL fs), .int .i64 v8, .int .i64 v9]) → (((w9.setCell ⟨w.heap.size, 4, none⟩ (.int .i64 v9)).alloc (.cells #[.string s, .int .i64 v7, .int .i64 (firstL fs), .int .i64 v8, .int .i64 v9] 53)).drew).grownBy w1 (Value.slice FA fs.length fcap).ownBlock → FunPost w H G A L c Bf r mb iv xs fs p m mm (.returned (.tuple #[])) (w1.setCell ⟨r, 4, none⟩ nv)) := by
              intro w1 nv hown hg
              obtain ⟨hrm, hbw⟩ := S14.out.append HG.out (f := ⟨s, v7, firstL fs, v8, v9⟩) hown hg
              refine ⟨rfl, nv, _, p9, bad9, hrm, hbw, hp9, ?_⟩
              rcases PL.out with h | ⟨h1, h2, h3, h4⟩
              · exact .inl h
              · exact .inr ⟨h1, h2, _, rfl, h3, h4⟩
            have FM := Lib.hid S14.out.rm.fm
            have AG : Hid ((Value.slice FA fs.length fcap).ownBlock ≠ some r) := own_blk_ne S14.out.rm.fm S14.out.rm.b (by decide)
            have d0 : (w9.setCell ⟨w.heap.size, 4, none⟩ (.int .i64 v9)).cell? ⟨w.heap.size, 0, none⟩ = some (.string s) := S14.out.fb.cell 0
            have d1 : (w9.setCell ⟨w.heap.size, 4, none⟩ (.int .i64 v9)).cell? ⟨w.heap.size, 1, none⟩ = some (.int .i64 v7) := S14.out.fb.cell 1
            have d2 : (w9.setCell ⟨w.heap.size, 4, none⟩ (.int .i64 v9)).cell? ⟨w.heap.size, 2, none⟩ = some (.int .i64 (firstL fs)) := S14.out.fb.cell 2
            have d3 : (w9.setCell ⟨w.heap.size, 4, none⟩ (.int .i64 v9)).cell? ⟨w.heap.size, 3, none⟩ = some (.int .i64 v8) := S14.out.fb.cell 3
            have d4 : (w9.setCell ⟨w.heap.size, 4, none⟩ (.int .i64 v9)).cell? ⟨w.heap.size, 4, none⟩ = some (.int .i64 v9) := S14.out.fb.cell 4
            have r4 : (w9.setCell ⟨w.heap.size, 4, none⟩ (.int .i64 v9)).cell? ⟨r, 4, none⟩ = some (.slice FA fs.length fcap) := S14.out.rm.b.cell 4
            have zr : ∀ j, (w9.setCell ⟨w.heap.size, 4, none⟩ (.int .i64 v9)).frozen? ⟨r, j, none⟩ = false := S14.out.rm.b.frozen
            have hrl := S14.out.rm.b.lt
            have hgl := S14.out.fb.lt
            have HHr := S14.out.rm.hr
            clear S13 S14 R7 R8 R9 PL zw9 yw94 hlw9 HMOST most_le HM0 HM1 HMO HNR hRU S12'
            generalize w9.setCell ⟨w.heap.size, 4, none⟩ (.int .i64 v9) = wb at *
            obtain ⟨i0, hI, hz0, hz1, hz2⟩ := fn_info
            have HI := Lib.hid hI
            have HZ0 := Lib.hid hz0
            have HZ1 := Lib.hid hz1
            have HZ2 := Lib.hid hz2
            clear hI hz0 hz1 hz2
            go_region_law
              ((refine step_append_lies _ (by rfl) (.tmp 110) (.tmp 112) 23 (by rfl) H 53 i0 _ 5 48 Try.underlying23 HI.out HZ0.out HZ1.out HZ2.out rfl (by omega) (.slice FA fs.length fcap) fs.length (fnCells fs) (by rfl) (own_only (own_only FM.out ((Only.refl (fun _ => False) wb).alloc (.cells #[.string s, .int .i64 v7, .int .i64 (firstL fs), .int .i64 v8, .int .i64 v9] 53)) (fun _ _ h => h)) (Only.refl (fun _ => False) _).drew (fun _ _ h => h)) ⟨wb.heap.size, 0, none⟩ 1 1 [.string s, .int .i64 v7, .int .i64 (firstL fs), .int .i64 v8, .int .i64 v9] (by rfl) (by rfl) (World.news_of_block (cs := #[.string s, .int .i64 v7, .int .i64 (firstL fs), .int .i64 v8, .int .i64 v9]) (t := 53) (fr := (0, 0)) (heap_alloc_new _ _)) (by simp [Value.oneCell']) (by omega) (by unfold maxLen; omega) (by omega) (by simp; omega) (wb.heap.size + 1) (by simp) ?_; intro gg cap1 w1' hown1 hgrow hat hlt; have e0 : w1'.cell? ⟨r, 4, none⟩ = some (.slice FA fs.length fcap) := (by rw [hgrow.cell_far _ (by simp; omega) (Ne.symm AG.out)]; go_keep); have e2 : ∀ j, w1'.frozen? ⟨r, j, none⟩ = false := (by intro j; rw [hgrow.frozen_far _ (by simp; omega) (Ne.symm AG.out)]; exact (frozen?_alloc_cells _ _ _ _).trans (zr j))))
            all_goals
              go_wp2_with fail
              go_end0
              exact FIN.out _ _ hown1 hgrow
end Go.Proofs.Ytafhjpehkfcmjaa
