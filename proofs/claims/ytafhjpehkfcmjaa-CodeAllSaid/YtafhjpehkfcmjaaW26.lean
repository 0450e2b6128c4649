/- code's reader: instruction: what it keeps. -/
import Derived.Test.YtafhjpehkfcmjaaW25
set_option linter.unusedVariables false
set_option linter.unusedSimpArgs false
namespace Go.Proofs.Ytafhjpehkfcmjaa
open Go.RowKit
structure IT (w0 w : World) (H : Nat) (G : Nat → Prop) (A : Option Addr) (L c : Nat) (Bf : Nat → UInt8) (r mb : Nat) (iv fv : Value) (xs : List Ins) (fs : List Fn) (p : Nat) (bad : Bool) (m : Int) (g0 : Nat) (fc : Array Value) (g : Nat) (ii : Array Value) : Prop where
  rm : RM w H G A L c Bf r mb iv fv xs fs fs.length (nameIn fs) p bad m
  fx : Blk w g0 53 fc
  ib : Blk w g 41 ii
  ne : iv.ownBlock ≠ some g
  bw : Below H w0 w
  hg : H ≤ g
  kp : ∀ g cs, Blk w0 g 53 cs → Blk w g 53 cs
section
variable {w0 w w' : World} {H : Nat} {G : Nat → Prop} {A : Option Addr} {L c : Nat} {Bf : Nat → UInt8} {r mb : Nat} {iv fv : Value} {xs : List Ins} {fs : List Fn} {p p' : Nat} {bad bad' : Bool} {m m' : Int} {g0 g : Nat} {fc ii ii' : Array Value}
theorem IT.start (h : RM w H G A L c Bf r mb iv fv xs fs fs.length (nameIn fs) p bad m) (hf : Blk w g0 53 fc) (hb : Below H w0 w) (kp : ∀ g cs, Blk w0 g 53 cs → Blk w g 53 cs) (ii : Array Value) : IT w0 (w.alloc (.cells ii 41)) H G A L c Bf r mb iv fv xs fs p bad m g0 fc w.heap.size ii := by
  have hlt := h.b.lt
  have hr := h.hr
  exact ⟨h.quiet ((Only.refl _ w).alloc _), hf.alloc _, Blk.new w 41 ii, fun e => by have := (World.ownsRow.lt h.im _ e).2; omega, hb.alloc (by omega) _, by omega, fun g cs h => (kp g cs h).alloc _⟩
theorem IT.turn (hG : ∀ b, G b → b < H) (h : IT w0 w H G A L c Bf r mb iv fv xs fs p bad m g0 fc g ii) (o : Only (fun b => b = r) w w') (hb : Blk w' r 67 (rcells (.slice A L c) p' bad' iv fv m' mb)) : IT w0 w' H G A L c Bf r mb iv fv xs fs p' bad' m' g0 fc g ii := by
  have hr := h.rm.hr
  have hlt := h.rm.b.lt
  exact ⟨h.rm.turn hG o hb, h.fx.only o (fun e => Blk.ne_ h.fx h.rm.b (by decide) e), h.ib.only o (fun e => Blk.ne_ h.ib h.rm.b (by decide) e), h.ne, h.bw.trans (o.toBelow (by omega) fun k hk e => by omega), h.hg, fun g cs hk => (h.kp g cs hk).only o (fun e => Blk.ne_ (h.kp g cs hk) h.rm.b (by decide) e)⟩
theorem IT.quiet (h : IT w0 w H G A L c Bf r mb iv fv xs fs p bad m g0 fc g ii) (o : Only (fun _ => False) w w') : IT w0 w' H G A L c Bf r mb iv fv xs fs p bad m g0 fc g ii := by
  have hg := h.hg
  have hlt := h.ib.lt
  exact ⟨h.rm.quiet o, h.fx.only o (fun h => h), h.ib.only o (fun h => h), h.ne, h.bw.trans (o.toBelow (by omega) fun _ _ h => h), h.hg, fun g cs hk => (h.kp g cs hk).only o (fun h => h)⟩
theorem IT.put (h : IT w0 w H G A L c Bf r mb iv fv xs fs p bad m g0 fc g ii) (hG : ∀ b, G b → b < H) (j : Nat) (u : Value) : IT w0 (w.setCell ⟨g, j, none⟩ u) H G A L c Bf r mb iv fv xs fs p bad m g0 fc g (ii.setIfInBounds j u) := by
  have o : Only (fun b => b = g) w (w.setCell ⟨g, j, none⟩ u) := (Only.refl (fun b => b = g) w).setCell (.inl rfl) u
  have hg := h.hg
  have hlt := h.ib.lt
  have hm := h.rm
  exact ⟨⟨hm.b.only o (fun e => Blk.ne_ h.ib hm.b (by decide) e.symm), hm.bl.only o (fun b _ hb e => by have := hG b hb; omega), own_only hm.im o (fun b hb e => h.ne (e ▸ hb)), own_only hm.fm o (fun b hb e => own_blk_ne hm.fm h.ib (by decide) (e ▸ hb)), hm.mp.only o (fun e => hm.mp.ne_blk h.ib e), hm.hr, hm.hmb⟩, h.fx.only o (fun e => Blk.ne_ h.fx h.ib (by decide) e), h.ib.set_ j u, h.ne, h.bw.trans (o.toBelow (by omega) fun k hk e => by omega), h.hg, fun g cs hk => (h.kp g cs hk).only o (fun e => Blk.ne_ (h.kp g cs hk) h.ib (by decide) e)⟩
theorem IT.number (hG : ∀ b, G b → b < H) (h : IT w0 w H G A L c Bf r mb iv fv xs fs p bad m g0 fc g ii) (hp : p ≤ L) (hL : L ≤ 300000000) (hc : L ≤ c) (hc2 : c ≤ 9223372036854775807) {n lo hi : Nat} (hn : 1 ≤ n) (hn2 : n ≤ 8) (hlo : lo < 18446744073709551616) (hhi : hi < 18446744073709551616) {ni li hi' : Int} (e1 : ni = (n : Int)) (e2 : li = (lo : Int)) (e3 : hi' = (hi : Int)) :
    Calls Try.prog 28 #[.pointer (some ⟨r, 0, none⟩), .int .i64 ni, .int .u64 li, .int .u64 hi'] w fun e w' => ∃ v p' bad', e = .returned (.int .i64 v) ∧ i64in v ∧ IT w0 w' H G A L c Bf r mb iv fv xs fs p' bad' m g0 fc g ii ∧ p' ≤ L ∧ NumR Bf L n lo hi p bad p' bad' v ∧ Only (fun b => b = r) w w' := by
  subst e1 e2 e3
  refine (rdnumber_c w G A L c Bf r iv fv m mb p bad n lo hi h.rm.b h.rm.bl (h.rm.gr hG) hp hL hc hc2 hn hn2 hlo hhi).mono ?_
  rintro e w' ⟨v, p', bad', rfl, hv, hb, ho, hR⟩
  exact ⟨v, p', bad', rfl, hv, h.turn hG ho hb, hR.le hp, hR, ho⟩
theorem IT.fault (hG : ∀ b, G b → b < H) (h : IT w0 w H G A L c Bf r mb iv fv xs fs p bad m g0 fc g ii) (q : Nat) : IT w0 ((w.setCell ⟨r, 1, none⟩ (.int .i64 (q : Int))).setCell ⟨r, 2, none⟩ (.bool true)) H G A L c Bf r mb iv fv xs fs q true m g0 fc g ii :=
  h.turn hG (((Only.refl (fun b => b = r) w).setCell (.inl rfl) _).setCell (.inl rfl) _) ((h.rm.b.set_ 1 _).set_ 2 _)
theorem IT.append {w1 : World} (hG : ∀ b, G b → b < H) {x : Ins} (h : IT w0 w H G A L c Bf r mb iv fv xs fs p bad m g0 fc g ii) {ob : Obj} {nv : Value} (hown : w1.ownsRow H 41 5 nv (xs.length + 1) (insCells xs ++ insCells [x])) (hg : (w.alloc ob).drew.grownBy w1 iv.ownBlock) :
    RM (w1.setCell ⟨r, 3, none⟩ nv) H G A L c Bf r mb nv fv (xs ++ [x]) fs fs.length (nameIn fs) p bad m ∧ Below H w0 (w1.setCell ⟨r, 3, none⟩ nv) ∧ ∀ g cs, Blk w0 g 53 cs → Blk (w1.setCell ⟨r, 3, none⟩ nv) g 53 cs := by
  have hm := h.rm
  have o0 : Only (fun _ => False) w (w.alloc ob).drew := ((Only.refl _ w).alloc ob).drew
  have h2 := hm.quiet o0
  have o1 : Only (fun b => iv.ownBlock = some b) (w.alloc ob).drew w1 := (Only.refl _ _).grown hg fun j hj => .inl hj
  have hfl := fun b hb => World.ownsRow.lt h2.im b hb
  have b1 : Blk w1 r 67 (rcells (.slice A L c) p bad iv fv m mb) := h2.b.only o1 (fun e => own_blk_ne h2.im h2.b (by decide) e)
  have o2 : Only (fun b => b = r) w1 (w1.setCell ⟨r, 3, none⟩ nv) := (Only.refl (fun b => b = r) w1).setCell (.inl rfl) _
  have hr := h2.hr
  have hlt1 := b1.lt
  have hlt := h2.b.lt
  have bl1 : BL w1 G A L Bf := h2.bl.only o1 (fun b _ hb e => by have := hG b hb; have := (hfl b e).1; omega)
  have fm1 : FR w1 H fv fs := own_only h2.fm o1 (fun b hb => own_ne_own h2.fm h2.im (by decide) b hb)
  have mp1 := h2.mp.only o1 (fun e => h2.mp.ne_own h2.im e)
  have im1 : IR w1 H nv (xs ++ [x]) := by
    unfold IR
    rw [insCells_append, List.length_append]
    exact hown
  have bw : Below H w0 (w.alloc ob).drew := (h.bw.trans (o0.toBelow (by have := hm.b.lt; omega) fun _ _ h => h))
  refine ⟨⟨b1.set_ 3 nv, bl1.only o2 (fun b _ hb e => by have := hG b hb; omega), own_only im1 o2 (fun b hb e => own_blk_ne im1 b1 (by decide) (e ▸ hb)), own_only fm1 o2 (fun b hb e => own_blk_ne fm1 b1 (by decide) (e ▸ hb)), mp1.only o2 (fun e => mp1.ne_blk b1 e), hm.hr, hm.hmb⟩, (bw.trans (o1.toBelow (by omega) fun k hk e => by have := (hfl k e).1; omega)).trans (o2.toBelow (by omega) fun k hk e => by omega), fun g cs hk => ?_⟩
  have k0 : Blk (w.alloc ob).drew g 53 cs := ((h.kp g cs hk).alloc ob).drew
  have k1 : Blk w1 g 53 cs := k0.only o1 (fun e => own_blk_ne h2.im k0 (by decide) e)
  exact k1.only o2 (fun e => Blk.ne_ k1 b1 (by decide) e)
end
theorem ins_info : ∃ i, Try.prog.info? 41 = some i ∧ i.zero = some (.agg #[.int .i64 0, .int .i64 0, .int .i64 0, .int .i64 0, .int .i64 0]) ∧ i.size = 5 ∧ i.bytes = 40 := info_of (by kernel_rfl)
/-! ## the plain part -/
def updN (a : Nat → Nat) (j v : Nat) : Nat → Nat := fun t => if t = j then v else a t
/-- What comes behind the operation: so many registers are left. -/
def pRest (nf : Nat) (f : Fn) (u : Nat) (k : Ins → Pr) : Nat → (Nat → Nat) → Pr
  | 0, a => if wideOf u then pNum 8 (bnd nf f u).1 (bnd nf f u).2 fun v => k ⟨u, a 0, a 1, a 2, IntKind.i64.wrap v⟩ else k ⟨u, a 0, a 1, a 2, 0⟩
  | q + 1, a => pReg (decide (2 - q < regsOf u)) fun v => pRest nf f u k q (updN a (2 - q) v)
theorem pIn_rest (nf : Nat) (f : Fn) (last : Bool) (k : Ins → Pr) : pIn nf f last k = .need 1 (fun l => (1 ≤ leN l ∧ leN l ≤ 38) ∧ (last = true → lastOk (leN l : Int) = true)) fun l => pRest nf f (leN l) k 3 (fun _ => 0) := rfl
/-- Behind the operation. -/
def OpR (Bf : Nat → UInt8) (L nf : Nat) (f : Fn) (last : Bool) (p p' : Nat) (bad' : Bool) (v : Int) : Prop :=
  (bad' = true ∧ ∀ k, run Bf L (pIn nf f last k) p = .bad p') ∨ (bad' = false ∧ p' = p + 1 ∧ ∃ u : Nat, v = (u : Int) ∧ 1 ≤ u ∧ u ≤ 38 ∧ ∀ k, run Bf L (pIn nf f last k) p = run Bf L (pRest nf f u k 3 fun _ => 0) p')
/-- Behind j registers. -/
def RegR (Bf : Nat → UInt8) (L nf : Nat) (f : Fn) (last : Bool) (p : Nat) (j : Nat) (x : Nat → Int) (p' : Nat) (bad' : Bool) (v : Int) : Prop :=
  (∀ t, j ≤ t → x t = 0) ∧ (∀ t, i64in (x t)) ∧ ((bad' = true ∧ ∀ k, run Bf L (pIn nf f last k) p = .bad p') ∨ (bad' = false ∧ p + 1 ≤ p' ∧ ∃ (u : Nat) (a : Nat → Nat), v = (u : Int) ∧ 1 ≤ u ∧ u ≤ 38 ∧ (∀ t, x t = (a t : Int)) ∧ ∀ k, run Bf L (pIn nf f last k) p = run Bf L (pRest nf f u k (3 - j) a) p'))
def updI (x : Nat → Int) (j : Nat) (v : Int) : Nat → Int := fun t => if t = j then v else x t
theorem opR_of {Bf : Nat → UInt8} {L nf : Nat} {f : Fn} {last : Bool} {p p1 : Nat} {bad1 : Bool} {v : Int} (h : NumR Bf L 1 1 38 p false p1 bad1 v) :
    ((bad1 = true ∨ ¬ (last = true ∧ lastOk v = false)) → OpR Bf L nf f last p p1 bad1 v) ∧ (bad1 = false → last = true → lastOk v = false → p1 = p + 1 ∧ OpR Bf L nf f last p p true v) := by
  rcases h with ⟨h, _⟩ | ⟨_, rfl, _, h⟩ | ⟨_, rfl, rfl, hL, u, rfl, h1, h2, h3, h⟩
  · cases h
  · refine ⟨fun _ => .inl ⟨rfl, fun k => ?_⟩, fun h => by cases h⟩
    have hh := h fun _ => .done ⟨[], [], 0⟩
    rw [pIn_rest]
    unfold pNum at hh
    by_cases g1 : p + 1 ≤ L
    · by_cases g2 : 1 ≤ leN (slc Bf p 1) ∧ leN (slc Bf p 1) ≤ 38
      · rw [run_step g1 g2] at hh
        simp only [run] at hh
        split at hh
        · cases hh
        · injection hh with hh
          have hc := h fun _ => .need 1 (fun _ => True) fun _ => .done ⟨[], [], 0⟩
          have hd := h fun _ => .need (L + 2) (fun _ => True) fun _ => .done ⟨[], [], 0⟩
          unfold pNum at hd
          rw [run_step g1 g2, run_lack (by omega)] at hd
          injection hd with hd
          rw [← hh] at hd
          rename_i hne
          exact absurd hd.symm hne
      · rw [run_wrong g1 g2] at hh
        rw [run_wrong g1 (fun ho => g2 ho.1)]
        exact hh
    · rw [run_lack (by omega)] at hh ⊢
      exact hh
  · have w1 : IntKind.i64.wrap (u : Int) = u := wrap_i64 ⟨by omega, by omega⟩
    rw [w1]
    have hu : u = leN (slc Bf p 1) := by
      have hh := h fun v => .need (L + 2) (fun _ => False) fun _ => .done ⟨[], [], v⟩
      have hd := h fun v => .done ⟨[], [], v⟩
      by_cases g2 : 1 ≤ leN (slc Bf p 1) ∧ leN (slc Bf p 1) ≤ 38
      · by_cases e : p + 1 = L
        · unfold pNum at hd
          rw [run_step hL g2, e, run_done, run_done] at hd
          injection hd with hd
          injection hd with _ _ hd
          exact hd.symm
        · have hd2 := h fun v => if v = u then .done ⟨[], [], v⟩ else .need (L + 2) (fun _ => True) fun _ => .done ⟨[], [], v⟩
          unfold pNum at hd2
          rw [run_step hL g2] at hd2
          simp only [if_true] at hd2
          rw [run_rest _ e] at hd2
          split at hd2
          · rename_i h0; exact h0.symm
          · rw [run_lack (by omega)] at hd2
            injection hd2 with hd2
            omega
      · unfold pNum at hd
        rw [run_wrong hL g2] at hd
        have := h fun _ => .need (L + 2) (fun _ => True) fun _ => .done ⟨[], [], 0⟩
        unfold pNum at this
        rw [run_wrong hL g2, run_lack (by omega)] at this
        injection this with this
        omega
    refine ⟨fun hc => .inr ⟨rfl, rfl, u, rfl, h1, h2, fun k => ?_⟩, fun _ hl hk => ⟨rfl, .inl ⟨rfl, fun k => ?_⟩⟩⟩
    · rw [pIn_rest, run_step hL ?_, ← hu]
      rw [← hu]
      refine ⟨⟨h1, h2⟩, fun hl => ?_⟩
      rcases hc with hc | hc
      · cases hc
      · cases hk : lastOk (u : Int) with
        | true => rfl
        | false => exact absurd ⟨hl, hk⟩ hc
    · rw [pIn_rest, run_wrong hL ?_]
      rw [← hu]
      rintro ⟨_, h⟩
      rw [hk] at h
      cases h hl
end Go.Proofs.Ytafhjpehkfcmjaa
