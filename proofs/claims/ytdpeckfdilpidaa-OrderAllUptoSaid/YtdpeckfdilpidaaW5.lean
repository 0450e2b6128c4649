/- order.Line. -/
import Derived.Test.YtdpeckfdilpidaaW4
import Derived.Deep.LoopGhost
set_option linter.unusedVariables false
set_option linter.unusedSimpArgs false
namespace Go.Proofs.Ytdpeckfdilpidaa
open Go.RowKit
attribute [local go_sem ↓] Go.wp_at_zero Go.wp_at_succ
theorem info4 : (Try.prog.info? 4).map (fun i => (i.zero, i.size, i.bytes)) = some (some (.bool false), 1, 1) := by kernel_rfl
theorem made_bools (n : Nat) (hn : n ≤ 1000000) (W' : World) : (Instr.makeSlice 32 (.int .i64 (n : Int)) (.int .i64 (n : Int))).run Try.prog W' = .ok (.slice (some ⟨W'.heap.size, 0, none⟩) n n) (W'.alloc (.cells (bools n fun _ => false) 4)) := by
  obtain ⟨i0, hI, hz0, hz1, hz2⟩ := info_parts info4
  have := run_makeSlice (P := Try.prog) (w := W') 32 4 i0 (.bool false) Try.underlying32 hI hz0 .i64 .i64 (n : Int) (n : Int) (by omega) (Int.le_refl _) (by rw [hz1]; simp; omega) (by rw [hz2]; simp; omega) (by omega)
  rw [hz1] at this
  have e : madeCells (Value.bool false).cells ((n : Int).toNat * 1) = bools n fun _ => false := by
    apply Array.ext_getElem?
    intro i
    by_cases hi : i < n
    · rw [bools_get n _ hi]
      simp [madeCells, Value.cells, hi, Nat.mod_one]
    · have h1 : (bools n fun _ => false)[i]? = none := by simp [bools]; omega
      rw [h1]
      simp [madeCells, Value.cells]; omega
  rw [e] at this
  simpa using this
def ofNats (l : List Nat) : List Int := l.map fun k : Nat => (k : Int)
def LinePost (w : World) (len : Nat) (X : Nat → List Int) (e : Ending) (w' : World) : Prop :=
  ∃ v, e = .returned v ∧ Below w.heap.size w w' ∧ ((¬ (Right len X ∧ 0 < len) ∧ v = .slice none 0 0) ∨
    (Right len X ∧ 0 < len ∧ ∃ s, Reach X s ∧ s.op = [] ∧ Row w' (fun k => w.heap.size ≤ k) 3 1 v s.done.length (nums (ofNats s.done.reverse))))
/-- What stands from round to round. -/
structure LI (w wr : World) (G FO : Nat → Prop) (A : Option Addr) (len cap : Nat) (X : Nat → List Int) (ov dv : Value) (s : DS) : Prop where
  lm : LM wr G FO A len cap X w.heap.size (w.heap.size + 1 + 1) (w.heap.size + 1) (w.heap.size + 1 + 1 + 1) ov s
  done : Row wr (fun k => w.heap.size ≤ k) 3 1 dv s.done.length (nums (ofNats s.done))
  reach : Reach X s
  below : Below w.heap.size w wr
  fo : ∀ k, FO k → w.heap.size ≤ k
def LoopAt (w wr : World) (G : Nat → Prop) (A : Option Addr) (len cap : Nat) (X : Nat → List Int) (dv : Value) (gk : Nat) : Prop := ∃ s ov FO, LI w wr G FO A len cap X ov dv s ∧ s.left X len ≤ gk
theorem first_lm (w : World) (G : Nat → Prop) (A : Option Addr) (len cap : Nat) (X : Nat → List Int) (h : RLL w G A len X) (hG : ∀ k, G k → k < w.heap.size) :
    LM ((((w.alloc (.cells #[.slice A len cap] 22)).alloc (.cells (bools len fun _ => false) 4)).alloc (.cells #[.slice (some ⟨w.heap.size + 1, 0, none⟩) len len] 32)).alloc (.cells #[.slice none 0 0] 39)) G (fun _ => False) A len cap X w.heap.size (w.heap.size + 1 + 1) (w.heap.size + 1) (w.heap.size + 1 + 1 + 1) (.slice none 0 0) ⟨fun _ => false, [], []⟩ := by
  have z1 : (w.alloc (.cells #[.slice A len cap] 22)).heap.size = w.heap.size + 1 := by simp
  have z2 : ((w.alloc (.cells #[.slice A len cap] 22)).alloc (.cells (bools len fun _ => false) 4)).heap.size = w.heap.size + 1 + 1 := by simp
  have z3 : (((w.alloc (.cells #[.slice A len cap] 22)).alloc (.cells (bools len fun _ => false) 4)).alloc (.cells #[.slice (some ⟨w.heap.size + 1, 0, none⟩) len len] 32)).heap.size = w.heap.size + 1 + 1 + 1 := by simp
  have b1 := Blk.new w 22 #[.slice A len cap]
  have b2 := Blk.new (w.alloc (.cells #[.slice A len cap] 22)) 4 (bools len fun _ => false)
  have b3 := Blk.new ((w.alloc (.cells #[.slice A len cap] 22)).alloc (.cells (bools len fun _ => false) 4)) 32 #[.slice (some ⟨w.heap.size + 1, 0, none⟩) len len]
  have b4 := Blk.new (((w.alloc (.cells #[.slice A len cap] 22)).alloc (.cells (bools len fun _ => false) 4)).alloc (.cells #[.slice (some ⟨w.heap.size + 1, 0, none⟩) len len] 32)) 39 #[.slice none 0 0]
  rw [z1] at b2
  rw [z2] at b3
  rw [z3] at b4
  exact ⟨((b1.alloc _).alloc _).alloc _, h.only (((((Only.refl (fun _ => False) w).alloc _).alloc _).alloc _).alloc _) (fun _ _ _ h => h), b3.alloc _, (b2.alloc _).alloc _, b4, Row.nil_ _ _ _ _,
    fun b hb => by have := hG b hb; exact ⟨by omega, by omega, by omega, by omega, fun h => h⟩⟩
theorem touch_below {w wr w' : World} {G FO : Nat → Prop} {A : Option Addr} {len cap : Nat} {X : Nat → List Int} {ov dv : Value} {s : DS} (h : LI w wr G FO A len cap X ov dv s) (o : Only (Touch (w.heap.size + 1) (w.heap.size + 1 + 1 + 1) ov) wr w') :
    Below w.heap.size w w' ∧ Row w' (fun k => w.heap.size ≤ k) 3 1 dv s.done.length (nums (ofNats s.done)) := by
  refine ⟨h.below.trans (o.toBelow h.below.size fun k hk hf => ?_), h.done.only o fun b hb hf => ?_⟩
  · rcases hf with e | e | e
    · omega
    · omega
    · have := h.fo k (h.lm.op.2 k e); omega
  · rcases hf with e | e | e
    · subst e; exact own_blk_ne h.done.1 h.lm.seen (by decide) hb
    · subst e; exact own_blk_ne h.done.1 h.lm.opB (by decide) hb
    · rcases h.lm.op.ne_type h.done (by decide) with e2 | e2
      · rw [e] at e2; cases e2
      · exact e2 (by rw [e, hb])
theorem LM.only {w w' : World} {F G FO : Nat → Prop} {A : Option Addr} {len cap : Nat} {X : Nat → List Int} {t1 s7 sb o8 : Nat} {ov : Value} {s : DS} (h : LM w G FO A len cap X t1 s7 sb o8 ov s) (ho : Only F w w') (h1 : ¬ F t1) (h2 : ¬ F s7) (h3 : ¬ F sb) (h4 : ¬ F o8) (h5 : ∀ k, ov.ownBlock = some k → ¬ F k) (h6 : ∀ k, G k → ¬ F k) :
    LM w' G FO A len cap X t1 s7 sb o8 ov s :=
  ⟨h.to_.only ho h1, h.rl.only ho fun k _ hk => h6 k hk, h.seenB.only ho h2, h.seen.only ho h3, h.opB.only ho h4, h.op.only ho h5, h.gG⟩
theorem LI.popped {w wr w4 : World} {G FO : Nat → Prop} {A : Option Addr} {len cap ob oc b : Nat} {X : Nat → List Int} {dv dv1 : Value} {seen : Nat → Bool} {op : List (Nat × Nat)} {done : List Nat} {obj : Obj} (h : LI w wr G FO A len cap X (.slice (some ⟨ob, 0, none⟩) (op.length + 1) oc) dv ⟨seen, op ++ [(b, 0)], done⟩)
    (hown : w4.ownsRow 0 3 1 dv1 (done.length + 1) (nums (ofNats done) ++ [.int .i64 (b : Int)])) (hg : (wr.alloc obj).grownBy w4 dv.ownBlock) (hat : dv1.ownBlock = dv.ownBlock ∨ ∃ k, dv1.ownBlock = some k ∧ wr.heap.size ≤ k) (hG : ∀ k, G k → k < w.heap.size) :
    LI w (w4.setCell ⟨w.heap.size + 1 + 1 + 1, 0, none⟩ (.slice (some ⟨ob, 0, none⟩) op.length oc)) G FO A len cap X (.slice (some ⟨ob, 0, none⟩) op.length oc) dv1 ⟨seen, op, done ++ [b]⟩ := by
  have hB := h.below.size
  have o1 : Only (fun k => dv.ownBlock = some k) wr w4 := ((Only.refl _ wr).alloc obj).grown hg fun k hk => .inl hk
  have s1 := o1.size
  have M : LM w4 G FO A len cap X _ _ _ _ _ ⟨seen, op ++ [(b, 0)], done⟩ := h.lm.only o1 (own_blk_ne h.done.1 h.lm.to_ (by decide)) (own_blk_ne h.done.1 h.lm.seenB (by decide)) (own_blk_ne h.done.1 h.lm.seen (by decide)) (own_blk_ne h.done.1 h.lm.opB (by decide)) (fun k hk hk' => by
      rcases h.lm.op.ne_type h.done (by decide) with e | e
      · rw [hk] at e; cases e
      · exact e (by rw [hk, hk'])) (fun k hk hk' => by
      have h1 := hG k hk
      have h2 := h.done.2 k hk'
      omega)
  obtain ⟨M2, o2⟩ := M.popped (done ++ [b])
  have hrow : Row w4 (fun k => w.heap.size ≤ k) 3 1 dv1 (done.length + 1) (nums (ofNats (done ++ [b]))) := by
    refine ⟨?_, fun k hk => ?_⟩
    · have e : nums (ofNats (done ++ [b])) = nums (ofNats done) ++ [.int .i64 (b : Int)] := by simp [nums, ofNats]
      rw [e]; exact hown
    · rcases hat with e | ⟨k', e, hk'⟩
      · exact h.done.2 k (by rw [← e]; exact hk)
      · rw [e] at hk; injection hk with hk; omega
  refine ⟨M2, ?_, .step h.reach (.pop seen op b done), (h.below.trans (o1.toBelow hB fun k hk hf => ?_)).trans (o2.toBelow (by omega) fun k hk hf => by omega), h.fo⟩
  · show Row _ _ 3 1 dv1 (done ++ [b]).length _
    rw [List.length_append]
    exact hrow.far (p := ⟨w.heap.size + 1 + 1 + 1, 0, none⟩) (own_blk_ne hrow.1 M.opB (by decide)) _
  · have := h.done.2 k hf; omega
theorem visit_done (X : Nat → List Int) (s : DS) (b : Nat) : (s.visit X b).done = s.done := by
  unfold DS.visit
  split <;> rfl
theorem snoc {α : Type} (l : List α) : l = [] ∨ ∃ i x, l = i ++ [x] := by
  rcases h : l.reverse with _ | ⟨x, r⟩
  · left; simpa using h
  · right; exact ⟨r.reverse, x, by rw [← List.reverse_reverse l, h]; simp⟩
theorem ofNats_length (d : List Nat) : (ofNats d).length = d.length := by simp [ofNats]
theorem rev_of {w : World} {F : Nat → Prop} {v : Value} {d : List Nat} (h : Row w F 3 1 v d.length (nums (ofNats d))) (hl : d.length ≤ 1000000) :
    Calls Try.prog 21 #[v] w fun e w' => e = .returned (.tuple #[]) ∧ Hid (Row w' F 3 1 v d.length (nums (ofNats d.reverse)) ∧ Only F w w') := by
  refine (reverse_c w F v (ofNats d) (by rw [ofNats_length]; exact h) (by rw [ofNats_length]; exact hl)).mono ?_
  rintro e w' ⟨h1, h2, h3⟩
  rw [ofNats_length] at h2
  refine ⟨h1, ?_, h3⟩
  have e : (ofNats d).reverse = ofNats d.reverse := by simp [ofNats]
  rw [← e]; exact h2
set_option maxRecDepth 100000 in
set_option maxHeartbeats 8000000 in
theorem line_c (w : World) (G : Nat → Prop) (A : Option Addr) (len cap : Nat) (X : Nat → List Int) (h : RLL w G A len X) (hG : ∀ k, G k → k < w.heap.size) (hl : len ≤ 250000) :
    Calls Try.prog 12 #[.slice A len cap] w (LinePost w len X) := by
  have hmf : ∀ (fn : Fn) (first cap : Array Value) (w : World), (Instr.makeFunc fn first cap).run Try.prog w = .ok (.func fn first cap) w := fun _ _ _ _ => rfl
  have hmk := made_bools len (by omega)
  have C := Lib.hid h.at_
  have H := Lib.hid h
  have HG := Lib.hid hG
  clear h hG
  have c1 : (w.alloc (.cells #[.slice A len cap] 22)).cell? ⟨w.heap.size, 0, none⟩ = some (.slice A len cap) := by simp
  have BAD := Lib.hid (fun (hb : ¬ (Right len X ∧ 0 < len)) => show LinePost w len X (.returned (.slice none 0 0)) (w.alloc (.cells #[.slice A len cap] 22)) from ⟨_, rfl, (Below.refl _ _).alloc (Nat.le_refl _) _, .inl ⟨hb, rfl⟩⟩)
  go_enter Try.func12, Try.ntmps12
  go_wp2_with fail
  go_loop [14] (fun i => ∃ k : Nat, k ≤ len ∧ i = .int .i64 (k : Int) ∧ Hid (∀ k', k' < k → ∀ i, i < (X k').length → 0 ≤ (X k').getD i 0 ∧ (X k').getD i 0 < len)) (fun i => len - (intOf i).toNat)
  case atStart => exact ⟨0, by omega, rfl, fun k' hk => absurd hk (Nat.not_lt_zero _)⟩
  case round =>
    obtain ⟨k, hk, rfl, HK⟩ := hrel
    by_cases hlt : k < len
    · obtain ⟨b, off, Ak, ck, rfl, hGb, hbl, ck0, hRL⟩ := C.out k hlt
      have RR := Lib.hid hRL.2
      have hxl := hRL.1
      have ckA : (w.alloc (.cells #[.slice (some ⟨b, off, none⟩) len cap] 22)).cell? ⟨b, off + k, none⟩ = some (.slice Ak (X k).length ck) := by
        rw [Only.cell ((Only.refl (fun _ => False) w).alloc _) hbl (fun h => h)]; exact ck0
      obtain ⟨L, hL⟩ : ∃ L, L = (X k).length := ⟨_, rfl⟩
      rw [← hL] at ckA RR hxl
      have HL := Lib.hid hL
      clear hRL C ck0 hL hmk hmf
      go_wp2_with fail
      go_loop [20] (fun i => ∃ t : Nat, t ≤ L ∧ i = .int .i64 (t : Int) ∧ Hid (∀ i, i < t → 0 ≤ (X k).getD i 0 ∧ (X k).getD i 0 < len)) (fun i => L - (intOf i).toNat)
      case atStart => exact ⟨0, by omega, rfl, fun i hi => absurd hi (Nat.not_lt_zero _)⟩
      case round =>
        obtain ⟨t, ht, rfl, HT⟩ := hrel
        by_cases htl : t < L
        · obtain ⟨hin, b', off', rfl, hGb', hbl', ct0⟩ := RR.out t htl
          have ct : (w.alloc (.cells #[.slice (some ⟨b, off, none⟩) len cap] 22)).cell? ⟨b', off' + t, none⟩ = some (.int .i64 ((X k).getD t 0)) := by
            rw [Only.cell ((Only.refl (fun _ => False) w).alloc _) hbl' (fun h => h)]; exact ct0
          by_cases hr : 0 ≤ (X k).getD t 0 ∧ (X k).getD t 0 < len
          · have HN : Hid (∀ i, i < t + 1 → 0 ≤ (X k).getD i 0 ∧ (X k).getD i 0 < len) := fun i hi => by
              by_cases he : i = t
              · rw [he]; exact hr
              · exact HT.out i (by omega)
            clear RR HT HK BAD ct0 HL H
            generalize (X k).getD t 0 = y at *
            obtain ⟨hr1, hr2⟩ := hr
            go_wp2_with fail
            go_round
            case rel => exact ⟨t + 1, by omega, by go_num, HN⟩
            case measure => first | (simp [intOf]; done) | (simp [intOf]; omega)
          · have E := Lib.hid (BAD.out (fun hh => hr (hh.1 k hlt t (by rw [← HL.out]; exact htl))))
            clear RR HT HK BAD ct0 HL H
            generalize (X k).getD t 0 = y at *
            rcases (show y < 0 ∨ (0 ≤ y ∧ (len : Int) ≤ y) by omega) with hc | ⟨hc1, hc2⟩
            · go_wp2_with fail
              go_ret
              exact E.out
            · go_wp2_with fail
              go_ret
              exact E.out
        · have HN : Hid (∀ k', k' < k + 1 → ∀ i, i < (X k').length → 0 ≤ (X k').getD i 0 ∧ (X k').getD i 0 < len) := fun k' hk' i hi => by
            by_cases he : k' = k
            · subst he; exact HT.out i (by have := HL.out; omega)
            · exact HK.out k' (by omega) i hi
          clear RR HT HK BAD HL H
          go_wp2_with fail
          go_round
          case rel => exact ⟨k + 1, by omega, by go_num, HN⟩
          case measure => first | (simp [intOf]; done) | (simp [intOf]; omega)
    · have HX : Hid (Right len X) := fun k' hk' i hi => HK.out k' (by omega) i hi
      by_cases h0 : len = 0
      · subst h0
        have E := Lib.hid (BAD.out (fun hh => by omega))
        clear HK C BAD H hmk hmf
        go_wp2_with fail
        go_ret
        exact E.out
      · have h0' : ((len : Int) == 0) = false := beq_eq_false_iff_ne.2 (by omega)
        have VC := Lib.hid (visit_c _ _ _ _ _ _ _ _ _ _ _ _ _ (first_lm w G A len cap X H.out HG.out) (fun k hk => by have := HG.out k hk; simp; omega) 0 (by omega) (by simp))
        clear HK C BAD H
        go_wp2_with fail
        refine VC.out.mono ?_
        rintro e w5 ⟨rfl, ov, hLM, hO⟩
        have E0 : Hid (LoopAt w w5 G A len cap X (.slice none 0 0) ((DS.start X).left X len)) := by
          refine ⟨DS.start X, ov, _, ⟨hLM, ?_, Reach.start, ?_, fun k hk => ?_⟩, Nat.le_refl _⟩
          · have e : (DS.start X).done = [] := by rw [DS.start, DS.visit_yes rfl]
            rw [e]; exact Row.nil_ _ _ _ _
          · exact (((((Below.refl _ w).alloc (Nat.le_refl _) _).alloc (by simp) _).alloc (by simp <;> omega) _).alloc (by simp <;> omega) _).trans (hO.toBelow (by simp <;> omega) fun k hk hf => by
              rcases hf with e | e | e
              · omega
              · omega
              · simp [Value.ownBlock] at e)
          · have := hk.1
            simp at this
            omega
        clear hLM hO VC
        generalize (DS.start X).left X len = n0 at *
        go_wp2_with fail
        go_loopg [10] n0 (fun gk dv wr => Hid (LoopAt w wr G A len cap X dv gk))
        case atStart => exact E0
        case round =>
          clear E0
          obtain ⟨s, ov, FO, HI, hgk⟩ := hrel.out
          have I := Lib.hid HI
          have HGK := Lib.hid hgk
          have SZ := (HI.reach.inv (by omega) HX.out).size
          clear HI hgk hrel
          obtain ⟨seen, op, done⟩ := s
          have c8 : wr.cell? ⟨w.heap.size + 1 + 1 + 1, 0, none⟩ = some ov := I.out.lm.opB.cell 0
          have c1 : wr.cell? ⟨w.heap.size, 0, none⟩ = some (.slice A len cap) := I.out.lm.to_.cell 0
          rcases snoc op with rfl | ⟨op, ⟨b, l⟩, rfl⟩
          · obtain ⟨Ao, co, rfl, _⟩ := I.out.lm.op.shape
            have RC := Lib.hid (rev_of I.out.done (by simp at SZ ⊢; omega))
            have E := Lib.hid I.out
            simp only [List.length_nil] at c8
            clear I HGK
            go_wp2_with (first | (go_at_call 21; refine RC.out.mono ?_; rintro e w6 ⟨rfl, hd⟩))
            go_ret
            exact ⟨_, rfl, E.out.below.trans (hd.out.2.toBelow E.out.below.size fun k hk hf => by omega), .inr ⟨HX.out, by omega, _, E.out.reach, rfl, hd.out.1⟩⟩
          · obtain ⟨ob, oc, rfl, hFO, hobl, hoc⟩ := I.out.lm.op.form (by simp)
            have hlen : (DS.mk seen (op ++ [(b, l)]) done).op.length = op.length + 1 := by simp
            have I' : Hid (LI w wr G FO A len cap X (.slice (some ⟨ob, 0, none⟩) (op.length + 1) oc) u10 ⟨seen, op ++ [(b, l)], done⟩) := by have := I.out; rw [hlen] at this; exact this
            rw [hlen] at c8 hoc
            have hop := I'.out.lm.op
            rw [hlen] at hop
            have cb := hop.cell (pairs_at op b l).1
            have cl := hop.cell (pairs_at op b l).2
            have fl := hop.frozen (op.length * 2 + 1)
            rw [hlen] at SZ
            clear I hop hlen
            have HLE := Lib.hid (fun (t : DS) (ht : Step X ⟨seen, op ++ [(b, l)], done⟩ t) => Nat.lt_of_lt_of_le (ht.less HX.out (I'.out.reach.inv (by omega) HX.out)) HGK.out)
            cases l with
            | zero =>
              obtain ⟨i0, hI, hz0, hz1, hz2⟩ := info_parts info3
              have HI := Lib.hid hI
              have HZ0 := Lib.hid hz0
              have HZ1 := Lib.hid hz1
              have HZ2 := Lib.hid hz2
              clear hI hz0 hz1 hz2 HGK
              have DR := Lib.hid I'.out.done.1
              have hd8 : done.length ≤ 250000 := by simp at SZ; omega
              have hol : w.heap.size + 1 + 1 + 1 < wr.heap.size := I'.out.lm.opB.lt
              have f8 : wr.frozen? ⟨w.heap.size + 1 + 1 + 1, 0, none⟩ = false := I'.out.lm.opB.frozen 0
              have n8 : Hid (u10.ownBlock ≠ some (w.heap.size + 1 + 1 + 1)) := own_blk_ne I'.out.done.1 I'.out.lm.opB (by decide)
              go_wp2_with (at_builtin; go_must (refine wpList_append_lies _ rfl (.tmp 56) (.tmp 61) 27 rfl 0 3 i0 _ 1 8 Try.underlying27 HI.out HZ0.out HZ1.out HZ2.out rfl (by omega) u10 done.length (nums (ofNats done)) rfl (DR.out.alloc _) ⟨wr.heap.size, 0, none⟩ 1 1 [.int .i64 (b : Int)] rfl rfl (World.news_of_block (cs := #[.int .i64 (b : Int)]) (t := 3) (fr := (0, 0)) (heap_alloc_new _ _)) (by simp [Value.oneCell']) (by omega) (by unfold maxLen; omega) (by omega) (Nat.zero_le _) (wr.heap.size + 1) (by simp) ?_); go_must (intro gg cap' w4 hown hgrow hat hlt4; have e1 : w4.cell? ⟨w.heap.size + 1 + 1 + 1, 0, none⟩ = some (.slice (some ⟨ob, 0, none⟩) (op.length + 1) oc) := (by rw [hgrow.cell_far _ (by simp; omega) (Ne.symm n8.out)]; go_keep); have e2 : w4.frozen? ⟨w.heap.size + 1 + 1 + 1, 0, none⟩ = false := (by rw [hgrow.frozen_far _ (by simp; omega) (Ne.symm n8.out)]; exact (frozen?_alloc_cells _ _ _ _).trans f8); have HW := Lib.hid hown; have HGr := Lib.hid hgrow; have HA := Lib.hid hat; clear hown hgrow hat c8 f8))
              have K := Lib.hid (I'.out.popped HW.out HGr.out (HA.out.imp (fun e => e.symm) (fun e => ⟨gg, rfl, by omega⟩)) HG.out)
              have HL := Lib.hid (HLE.out _ (.pop seen op b done))
              go_roundg (gk - 1)
              case rel => exact ⟨_, _, FO, K.out, by have := HL.out; omega⟩
              case measure => have := HL.out; omega
            | succ l =>
              have HX' := HX.out b
              have hbn : b < len := ((I'.out.reach.inv (by omega) HX.out).op (b, l + 1) (by simp)).1
              have hbl : l + 1 ≤ (X b).length := ((I'.out.reach.inv (by omega) HX.out).op (b, l + 1) (by simp)).2
              obtain ⟨x0, x1⟩ := HX' hbn l (by omega)
              obtain ⟨xn, hxn⟩ : ∃ xn : Nat, (X b).getD l 0 = (xn : Int) := ⟨((X b).getD l 0).toNat, by omega⟩
              have hxl : xn < len := by omega
              have M := Lib.hid (I'.out.lm.gone l)
              have MD : Hid (LM (wr.setCell ⟨ob, op.length * 2 + 1, none⟩ (.int .i64 (l : Int))).drew G FO A len cap X w.heap.size (w.heap.size + 1 + 1) (w.heap.size + 1) (w.heap.size + 1 + 1 + 1) (.slice (some ⟨ob, 0, none⟩) (op.length + 1) oc) ⟨seen, op ++ [(b, l)], done⟩) := M.out.1.only ((Only.refl (fun _ => False) _).drew) (fun h => h) (fun h => h) (fun h => h) (fun h => h) (fun _ _ h => h) (fun _ _ h => h)
              have hws : w.heap.size ≤ wr.heap.size := I'.out.below.size
              have VC := Lib.hid (visit_c _ _ _ _ _ _ _ _ _ _ _ _ _ MD.out (fun k hk => by have := HG.out k hk; show k < (wr.setCell _ _).heap.size; simp [World.setCell]; omega) xn hxl (by simp at SZ ⊢; omega))
              obtain ⟨bb, off, Ak, ck, rfl, hGb, hbbl, ck0, hRL⟩ := I'.out.lm.rl.at_ b hbn
              obtain ⟨_, b2, off2, rfl, hG2, hb2l, cx⟩ := hRL.2 l (by omega)
              rw [hxn] at cx
              have HXN := Lib.hid hxn
              have hobw : w.heap.size ≤ ob := I'.out.fo ob hFO
              have n1 : bb ≠ ob := fun e => by have := HG.out bb hGb; omega
              have n2 : b2 ≠ ob := fun e => by have := HG.out b2 hG2; omega
              have n3 : w.heap.size ≠ ob := fun e => own_blk_ne I'.out.lm.op.1 I'.out.lm.to_ (by decide) (by rw [e]; rfl)
              have hlb := hRL.1
              have ST : Hid (Step X ⟨seen, op ++ [(b, l + 1)], done⟩ (DS.visit X ⟨seen, op ++ [(b, l)], done⟩ xn)) := by
                have := Step.way (X := X) seen op b l done
                rw [HXN.out] at this
                exact this
              have FIN := Lib.hid (fun (w6 : World) (ov' : Value) (hLM : LM w6 G (fun k => (FO k ∨ (wr.setCell ⟨ob, op.length * 2 + 1, none⟩ (.int .i64 (l : Int))).drew.heap.size ≤ k) ∧ k < w6.heap.size) (some ⟨bb, off, none⟩) len cap X w.heap.size (w.heap.size + 1 + 1) (w.heap.size + 1) (w.heap.size + 1 + 1 + 1) ov' (DS.visit X ⟨seen, op ++ [(b, l)], done⟩ xn)) (hO : Only (Touch (w.heap.size + 1) (w.heap.size + 1 + 1 + 1) (.slice (some ⟨ob, 0, none⟩) (op.length + 1) oc)) (wr.setCell ⟨ob, op.length * 2 + 1, none⟩ (.int .i64 (l : Int))).drew w6) => show LoopAt w w6 G (some ⟨bb, off, none⟩) len cap X u10 (gk - 1) from by
                have oT := ((M.out.2.mono (G := Touch (w.heap.size + 1) (w.heap.size + 1 + 1 + 1) (.slice (some ⟨ob, 0, none⟩) (op.length + 1) oc)) (fun k _ e => .inr (.inr (by rw [e]; rfl)))).drew).trans hO (fun _ _ h => h)
                have T := touch_below I'.out oT
                refine ⟨_, ov', _, ⟨hLM, by rw [visit_done]; exact T.2, .step I'.out.reach ST.out, T.1, fun k hk => ?_⟩, by have := HLE.out _ ST.out; omega⟩
                rcases hk.1 with h1 | h1
                · exact I'.out.fo k h1
                · exact Nat.le_trans hws (Nat.le_trans M.out.2.size h1))
              have hgk0 : 0 < gk := by have := HLE.out _ ST.out; omega
              clear hRL HX' hxn HGK
              generalize (X b).length = Lb at *
              have hbl' : l < Lb := by omega
              have hbl2 : (l : Int) < (Lb : Int) := by omega
              have hbn2 : (b : Int) < (len : Int) := by omega
              go_wp2_with fail
              go_region_with ((go_at_call 20; refine VC.out.mono ?_; rintro e w6 ⟨rfl, ov', hLM, hO⟩; have HM := Lib.hid hLM; have HO := Lib.hid hO; clear hLM hO))
              all_goals go_wp2_with fail
              all_goals
                go_roundg (gk - 1)
                case rel => exact FIN.out _ _ HM.out HO.out
                case measure => omega
end Go.Proofs.Ytdpeckfdilpidaa
