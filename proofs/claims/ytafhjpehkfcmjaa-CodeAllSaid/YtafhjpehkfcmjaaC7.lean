/- CodeAll: the walk. -/
import Derived.Test.YtafhjpehkfcmjaaC6
import Derived.Test.YtafhjpehkfcmjaaC5
import Derived.Test.YtafhjpehkfcmjaaW47
import Derived.Test.YtafhjpehkfcmjaaW49
set_option linter.unusedVariables false
set_option linter.unusedSimpArgs false
namespace Go.Proofs.Ytafhjpehkfcmjaa
open Go.RowKit
attribute [local go_sem ↓] Go.wp_at_zero Go.wp_at_succ
theorem SC.some_ {w : World} {b off n : Nat} {f : Nat → CC} (h : SC w (some ⟨b, off, none⟩) n f) {i : Nat} (hi : i < n) : CK w (f i) ∧ b < w.heap.size ∧ w.cell? ⟨b, off + i * 4, none⟩ = some (.slice (f i).A (f i).ni (f i).ci) ∧ w.cell? ⟨b, off + i * 4 + 1, none⟩ = some (.slice (f i).B (f i).nf (f i).cf) ∧
    w.cell? ⟨b, off + i * 4 + 2, none⟩ = some (.int .i64 (f i).m) ∧ w.cell? ⟨b, off + i * 4 + 3, none⟩ = some (.slice (f i).D (f i).L (f i).dc) := by
  obtain ⟨k, b', off', e, hl, c0, c1, c2, c3⟩ := h.2 i hi
  injection e with e
  injection e with e1 e2 _
  subst e1 e2
  exact ⟨k, hl, c0, c1, c2, c3⟩
theorem s28_info' : ∃ i, Try.prog.info? 28 = some i ∧ i.zero = some (.slice none 0 0) ∧ i.size = 1 ∧ i.bytes = 24 := info_of (by kernel_rfl)
theorem s25_info : ∃ i, Try.prog.info? 25 = some i ∧ i.zero = some (.agg #[.slice none 0 0, .slice none 0 0, .int .i64 0]) ∧ i.size = 3 ∧ i.bytes = 56 := info_of (by kernel_rfl)
theorem box_off {w w' : World} {gx g : Nat} {cs : Array Value} {e : TypeId} (h : Blk w gx 25 cs) (o : Only (fun b => b = g) w w') (hg : TB w g e ∨ w.heap.size ≤ g) (hne : e ≠ 25) : Blk w' gx 25 cs :=
  h.only o fun e1 => by
    subst e1
    rcases hg with hg | hg
    · exact hne (hg.one h.tb)
    · have := h.lt; omega
theorem tab_insF (xs : List Ins) : xs = tabX (insF xs) xs.length := by
  refine List.ext_getElem? fun j => ?_
  rcases Nat.lt_or_ge j xs.length with h | h
  · simp [tabX, insF, h]
  · rw [List.getElem?_eq_none h, List.getElem?_eq_none (by rw [tabX_length]; exact h)]
/-- What is written over at once. -/
structure ZS (wj wx : World) (gx : Nat) (A6 : Option Addr) (n6 c6 : Nat) (A7 : Option Addr) (n7 c7 : Nat) (B7 : Option Addr) (n8 c8 : Nat) (mm : Int) : Prop where
  below : Below wj.heap.size wj wx
  bv : ∃ l : List UInt8, l.length = n6 ∧ BR wx wj.heap.size (.slice A6 n6 c6) l
  iv : ∃ W : Nat → Ins, IR wx wj.heap.size (.slice A7 n7 c7) (tabX W n7)
  bx : Blk wx gx 25 #[.slice A7 n7 c7, .slice B7 n8 c8, .int .i64 mm]
section
variable {wj wx : World} {gx g : Nat} {A6 A7 B7 : Option Addr} {n6 c6 n7 c7 n8 c8 k : Nat} {mm : Int}
theorem ZS.addr6 (h : ZS wj wx gx A6 n6 c6 A7 n7 c7 B7 n8 c8 mm) (h0 : 0 < n6) : ∃ g, A6 = some ⟨g, 0, none⟩ := by
  obtain ⟨l, hl, hv⟩ := h.bv
  obtain ⟨A, c, e, _, _, hg⟩ := own_shape hv
  injection e with e _ _
  subst e
  obtain ⟨g, e, _⟩ := hg (by omega)
  exact ⟨g, e⟩
theorem ZS.addr7 (h : ZS wj wx gx A6 n6 c6 A7 n7 c7 B7 n8 c8 mm) (h0 : 0 < n7) : ∃ g, A7 = some ⟨g, 0, none⟩ := by
  obtain ⟨W, hv⟩ := h.iv
  obtain ⟨A, c, e, _, _, hg⟩ := own_shape hv
  injection e with e _ _
  subst e
  obtain ⟨g, e, _⟩ := hg (by rw [tabX_length]; exact h0)
  exact ⟨g, e⟩
theorem ZS.cell6 (h : ZS wj wx gx (some ⟨g, 0, none⟩) n6 c6 A7 n7 c7 B7 n8 c8 mm) (hk : k < n6) : ∃ u, wx.cell? ⟨g, k, none⟩ = some u := by
  obtain ⟨l, hl, hv⟩ := h.bv
  exact ⟨_, (own_cells hv (b := g) rfl k (by omega)).trans (List.getElem?_eq_getElem (by simp [byts]; omega))⟩
theorem ZS.froz6 (h : ZS wj wx gx (some ⟨g, 0, none⟩) n6 c6 A7 n7 c7 B7 n8 c8 mm) (k : Nat) : wx.frozen? ⟨g, k, none⟩ = false := by
  obtain ⟨l, hl, hv⟩ := h.bv
  subst hl
  exact World.ownsRow.frozenAt hv k
theorem ZS.cell7 (h : ZS wj wx gx A6 n6 c6 (some ⟨g, 0, none⟩) n7 c7 B7 n8 c8 mm) {j : Nat} (hj : j < n7 * 5) : ∃ u, wx.cell? ⟨g, j, none⟩ = some u := by
  obtain ⟨W, hv⟩ := h.iv
  exact ⟨_, (own_cells hv (b := g) rfl j (by rw [tabX_length]; exact hj)).trans (List.getElem?_eq_getElem (by rw [insCells_length, tabX_length]; exact hj))⟩
theorem ZS.froz7 (h : ZS wj wx gx A6 n6 c6 (some ⟨g, 0, none⟩) n7 c7 B7 n8 c8 mm) (k : Nat) : wx.frozen? ⟨g, k, none⟩ = false := by
  obtain ⟨W, hv⟩ := h.iv
  unfold IR at hv
  rw [tabX_length] at hv
  exact World.ownsRow.frozenAt hv k
theorem ZS.put6 (h : ZS wj wx gx (some ⟨g, 0, none⟩) n6 c6 A7 n7 c7 B7 n8 c8 mm) (k : Nat) (u : Value) (hu : ∃ b : UInt8, u = .int .u8 (b.toNat : Int)) : ZS wj (wx.setCell ⟨g, k, none⟩ u) gx (some ⟨g, 0, none⟩) n6 c6 A7 n7 c7 B7 n8 c8 mm := by
  obtain ⟨b, rfl⟩ := hu
  obtain ⟨l, hl, hv⟩ := h.bv
  obtain ⟨W, hw⟩ := h.iv
  have o := one_set wx g k (.int .u8 (b.toNat : Int))
  have tb : TB wx g 5 := own_tb hv rfl
  exact ⟨h.below.setCell (World.ownsRow.lt hv g rfl).1 _, ⟨l.set k b, by rw [List.length_set]; exact hl, hv.put⟩, ⟨W, own_keep hw (tb_other tb (by decide) o)⟩, box_off h.bx o (.inl tb) (by decide)⟩
theorem ZS.put7 (h : ZS wj wx gx A6 n6 c6 (some ⟨g, 0, none⟩) n7 c7 B7 n8 c8 mm) (hk : k < n7) (x : Ins) : ZS wj (putI wx g k x) gx A6 n6 c6 (some ⟨g, 0, none⟩) n7 c7 B7 n8 c8 mm := by
  obtain ⟨l, hl, hv⟩ := h.bv
  obtain ⟨W, hw⟩ := h.iv
  have o := putI_only wx g k x
  have tb : TB wx g 41 := own_tb hw rfl
  have hg := (World.ownsRow.lt hw g rfl).1
  exact ⟨((((h.below.setCell hg _).setCell hg _).setCell hg _).setCell hg _).setCell hg _, ⟨l, hl, own_keep hv (tb_other tb (by decide) o)⟩, ⟨_, hw.put hk⟩, box_off h.bx o (.inl tb) (by decide)⟩
end
theorem F1.shp3 {w : World} {H : Nat} {e : TypeId} {size N : Nat} {V : Nat → Value} {nn : Nat → Nat} {X : Nat → List Value} (h : F1 w H e size N V nn X) {k : Nat} (hk : k < N) : ∃ A c, V k = .slice A (nn k) c := let ⟨A, c, e, _⟩ := own_shape (h.rows k hk); ⟨A, c, e⟩
theorem SA.at_ {f : Nat → CC} {w wr : World} {T ta ca cA cC k : Nat} {V0 V1 V2 : Nat → Value} {D I J : Option Addr} {d0 d1 d2 : Nat} (h : SA f w wr T (.slice (some ⟨ta, 0, none⟩) T cA) (.slice (some ⟨ca, 0, none⟩) T cC) V0 V1 V2) (hk : k < T) (hL : (f (k / 2)).L ≤ 268435456)
    (eD : V0 k = .slice D (s0 f k) d0) (eI : V1 k = .slice I (s1_ f k) d1) (eJ : V2 k = .slice J (s2_ f k) d2) :
    (wr.cell? ⟨ta, k, none⟩ = some (.slice D (wrL (f (k / 2))).length d0) ∧ wr.cell? ⟨ca, k * 3, none⟩ = some (.slice I (outI (rdO (f (k / 2)))).length d1) ∧ wr.cell? ⟨ca, k * 3 + 1, none⟩ = some (.slice J (outF (rdO (f (k / 2)))).length d2) ∧ wr.cell? ⟨ca, k * 3 + 2, none⟩ = some (.int .i64 (outM (rdO (f (k / 2))) : Int))) ∧
    BL wr (fun b => b < wr.heap.size) D (wrL (f (k / 2))).length (lstF (wrL (f (k / 2)))) ∧ Res wr (fun b => b < wr.heap.size) (rdO (f (k / 2))) I d1 J d2 := by
  obtain ⟨ta', ca', D', c0, I', c1, J', c2, e1, e2, a0, b0, b1, b2, hb, hr⟩ := h.facts hk hL
  injection e1 with e1
  injection e1 with e1 _ _
  injection e2 with e2
  injection e2 with e2 _ _
  subst e1 e2
  have x0 : wr.cell? ⟨ta, k, none⟩ = some (V0 k) := by
    rw [own_cells h.o0 (b := ta) rfl k (by omega)]
    exact cellsOf_get _ hk
  obtain ⟨y1, y2, y3⟩ := cells3_get V1 V2 (sm f) T k hk
  have x1 : wr.cell? ⟨ca, k * 3, none⟩ = some (V1 k) := by
    rw [own_cells h.o1 (b := ca) rfl _ (by omega)]
    exact y1
  have x2 : wr.cell? ⟨ca, k * 3 + 1, none⟩ = some (V2 k) := by
    rw [own_cells h.o1 (b := ca) rfl _ (by omega)]
    exact y2
  have f0 := a0.symm.trans x0
  have f1 := b0.symm.trans x1
  have f2 := b1.symm.trans x2
  rw [eD] at f0
  rw [eI] at f1
  rw [eJ] at f2
  injection f0 with f0
  injection f0 with f0 _ f0'
  injection f1 with f1
  injection f1 with f1 _ f1'
  injection f2 with f2
  injection f2 with f2 _ f2'
  subst f0 f0' f1 f1' f2 f2'
  exact ⟨⟨a0, b0, b1, b2⟩, hb, hr⟩
theorem Res.same {w : World} {G G2 : Nat → Prop} {o : Out} {A B A2 B2 : Option Addr} {c1 c2 c3 c4 : Nat} (h : Res w G o A c1 B c2) (h2 : Res w G2 o A2 c3 B2 c4) :
    Calls Try.prog 20 #[.agg #[.slice A (outI o).length c1, .slice B (outF o).length c2, .int .i64 (outM o : Int)], .agg #[.slice A2 (outI o).length c3, .slice B2 (outF o).length c4, .int .i64 (outM o : Int)]] w fun e w' => e = .returned (.bool true) ∧ Below w.heap.size w w' := by
  refine (same_c w _ _ A (outI o).length c1 (insF (outI o)) B (outF o).length c2 (fnF (outF o)) (outM o) A2 (outI o).length c3 (insF (outI o)) B2 (outF o).length c4 (fnF (outF o)) (outM o) h.il h.fl h2.il h2.fl h.hm h2.hm h.h1 h2.h1 h.h2 h2.h2).mono ?_
  rintro e w' ⟨r, rfl, hr, hb⟩
  obtain rfl : r = true := hr.2 ⟨rfl, rfl, rfl, fun _ _ => rfl, fun _ _ => rfl⟩
  exact ⟨rfl, hb⟩
theorem wrL_max {x : CC} (h1 : x.ni ≤ 50000) (h2 : x.nf ≤ 1000) : (wrL x).length ≤ 1000000 := by
  unfold wrL outL
  split
  · rename_i hok
    exact enc_max hok h1 h2
  · exact Nat.zero_le _
theorem below_drewN (w : World) (k : Nat) : Below w.heap.size w (w.drewN k) := ((Only.refl (fun _ => False) w).drewN k).toBelow (Nat.le_refl _) (fun _ _ h => h)
set_option maxRecDepth 100000 in
set_option maxHeartbeats 64000000 in
theorem codeAll_c (w : World) (A : Option Addr) (n cap : Nat) (f : Nat → CC) (hS : SC w A n f) (hc : n ≤ cap) (hc2 : cap ≤ 9223372036854775807) (hL : ∀ i, i < n → (f i).L ≤ 140737488351232) :
    Calls Try.prog 5 #[.slice A n cap] w fun e w' => e = .returned (.bool true) ∧ Below w.heap.size w w' := by
  have HS := Lib.hid hS
  have HL := Lib.hid hL
  have B0 : Hid (Below w.heap.size w w) := Below.refl _ _
  clear hS hL
  go_enter Try.func5, Try.ntmps5
  go_upto_region 3 with fail
  go_loopw [3, 4] (fun nv iv wx => ∃ i N : Nat, i ≤ n ∧ nv = .int .i64 (N : Int) ∧ iv = .int .i64 (i : Int) ∧ N ≤ 140737488500000 ∧ Hid (∀ k, k < i → (f k).ni ≤ 50000 ∧ (f k).nf ≤ 1000 ∧ (f k).L ≤ N) ∧ Hid (Below w.heap.size w wx)) (fun _ iv _ => n - (intOf iv).toNat)
  case atStart => exact ⟨0, 0, by omega, rfl, rfl, by omega, fun k hk => absurd hk (Nat.not_lt_zero _), B0⟩
  case round =>
    clear B0
    obtain ⟨i, N, hi, rfl, rfl, hN, HK, B⟩ := hrel
    by_cases hlt : i < n
    · by_cases hN5 : N ≤ 50000
      · obtain ⟨_, b, off, rfl, -⟩ := (HS.out.below B.out).2 i hlt
        obtain ⟨k, hbl, c0, c1, c2, c3⟩ := (HS.out.below B.out).some_ hlt
        have K := Lib.hid k
        have i1 : (i : Int) < (n : Int) := by omega
        clear k
        go_wp2_with fail
        refine (fits_c wr _ (f i).A (f i).ni (f i).ci (f i).X (f i).B (f i).nf (f i).cf (f i).Fs (f i).m K.out.il K.out.fl K.out.h1 K.out.h2).mono ?_
        rintro e w2 ⟨r, rfl, hr, hb2⟩
        have B2 := Lib.hid (B.out.trans (hb2.mono B.out.size))
        clear hb2 c0 c1 c2 c3 hbl K B
        cases r with
        | false =>
          clear hr
          go_wp2_with fail
          go_ret
          exact ⟨rfl, B2.out⟩
        | true =>
          obtain ⟨hn1, hn2⟩ := hr rfl
          clear hr
          obtain ⟨k, hbl, c0, c1, c2, c3⟩ := (HS.out.below B2.out).some_ hlt
          have hk1 := k.h1
          have hk3 := k.h3
          have hLi := HL.out i hlt
          have B3 : Hid (∀ k, Below w.heap.size w (w2.drewN k)) := fun k => B2.out.trans ((below_drewN w2 k).mono B2.out.size)
          have HK2 : Hid (∀ k, k < i + 1 → (f k).ni ≤ 50000 ∧ (f k).nf ≤ 1000 ∧ (f k).L ≤ N + (f i).ni + (f i).L + 100) := fun k hk => by
            by_cases e : k = i
            · subst e; exact ⟨hn1, hn2, by omega⟩
            · have := HK.out k (by omega); exact ⟨this.1, this.2.1, by omega⟩
          clear k B2 HK
          go_upto_region 8 with fail
          go_quiet (fail)
          go_wp2_with fail
          go_roundw
          case rel => exact ⟨i + 1, N + (f i).ni + (f i).L + 100, by omega, by go_num, by go_num, by omega, HK2, B3.out _⟩
          case measure => first | (simp [intOf]; done) | (simp [intOf]; omega)
      · go_wp2_with fail
        go_ret
        exact ⟨rfl, B.out⟩
    · obtain rfl : n = i := by omega
      by_cases hN5 : N ≤ 50000
      · by_cases h45 : n ≤ 45
        · have HK5 : Hid (∀ k, k < n → (f k).ni ≤ 50000 ∧ (f k).nf ≤ 1000 ∧ (f k).L ≤ 50000) := fun k hk => by have := HK.out k hk; exact ⟨this.1, this.2.1, by omega⟩
          clear HK HL
          go_wp2_with fail
          refine (alive_c wr).mono ?_
          rintro e w3 ⟨rfl, hb3⟩
          have B3 := Lib.hid (B.out.trans (hb3.mono B.out.size))
          clear hb3 B
          go_upto_region 16 with fail
          have S0 : Hid (∃ V0 V1 V2, SA f w w3 0 (.slice none 0 0) (.slice none 0 0) V0 V1 V2) := ⟨_, _, _, SA.start B3.out (fun _ => .bool false) (fun _ => .bool false) (fun _ => .bool false)⟩
          clear B3
          go_loopw [6, 7, 8] (fun tv cv iv wx => ∃ i : Nat, i ≤ n ∧ iv = .int .i64 (i : Int) ∧ Hid (∃ V0 V1 V2, SA f w wx (2 * i) tv cv V0 V1 V2)) (fun _ _ iv _ => n - (intOf iv).toNat)
          case atStart => exact ⟨0, by omega, rfl, S0⟩
          case round =>
            clear S0
            obtain ⟨i, hi, rfl, HR⟩ := hrel
            by_cases hlt : i < n
            · obtain ⟨V0, V1, V2, hSA⟩ := HR.out
              have S := Lib.hid hSA
              clear HR hSA
              obtain ⟨_, b, off, rfl, -⟩ := (HS.out.below S.out.below).2 i hlt
              obtain ⟨k, hbl, c0, c1, c2, c3⟩ := (HS.out.below S.out.below).some_ hlt
              have K := Lib.hid k
              obtain ⟨hn1, hn2, hn3⟩ := HK5.out i hlt
              have i1 : (i : Int) < (n : Int) := by omega
              clear k
              go_wp2_with fail
              refine (written_c wr _ (fun b h => h) (f i).A (f i).ni (f i).ci (f i).X (f i).B (f i).nf (f i).cf (f i).Fs (f i).m K.out.il K.out.fl K.out.h1 K.out.h2 K.out.hm hn1 hn2).mono ?_
              rintro e w4 ⟨rfl, hb4⟩
              have S4 := Lib.hid (S.out.on hb4)
              clear hb4 S K c0 c1 c2 c3 hbl
              obtain ⟨k, hbl, c0, c1, c2, c3⟩ := (HS.out.below S4.out.below).some_ hlt
              have K := Lib.hid k
              clear k
              go_wp2_with fail
              refine (readlaw_c w4 _ (f i).D (f i).L (f i).dc (f i).S K.out.bl K.out.h3 K.out.h4 (by omega)).mono ?_
              rintro e w5 ⟨rfl, hb5⟩
              have S5 : Hid (∃ V0 V1 V2, SA f w w5 (2 * i + min 0 2) u6 u7 V0 V1 V2) := ⟨_, _, _, S4.out.on hb5⟩
              clear hb5 S4 K c0 c1 c2 c3 hbl
              go_wp2_with fail
              go_loopw [6, 7, 10] (fun tv cv jv wx => ∃ j : Nat, j ≤ 3 ∧ jv = .int .i64 (j : Int) ∧ Hid (∃ V0 V1 V2, SA f w wx (2 * i + min j 2) tv cv V0 V1 V2)) (fun _ _ jv _ => 3 - (intOf jv).toNat)
              case atStart => exact ⟨0, by omega, rfl, S5⟩
              case round =>
                clear S5
                obtain ⟨j, hj, rfl, HR⟩ := hrel
                by_cases hj3 : j < 3
                · obtain ⟨V0, V1, V2, hSA⟩ := HR.out
                  have S := Lib.hid hSA
                  clear HR hSA
                  obtain ⟨k, hbl, c0, c1, c2, c3⟩ := (HS.out.below S.out.below).some_ hlt
                  have K := Lib.hid k
                  clear k
                  go_wp2_with fail
                  refine (write_c wr _ (fun b h => h) (f i).A (f i).ni (f i).ci (f i).X (f i).B (f i).nf (f i).cf (f i).Fs (f i).m K.out.il K.out.h1 K.out.fl K.out.h2 K.out.hm (by omega) (by omega)).mono ?_
                  intro e w4 hr
                  obtain ⟨A6, c6, rfl, hv4, hb4⟩ := write_one hr
                  have V4 := Lib.hid hv4
                  have B4 := Lib.hid hb4
                  clear hr hv4 hb4 K c0 c1 c2 c3 hbl
                  obtain ⟨k, hbl, c0, c1, c2, c3⟩ := (HS.out.below (S.out.on B4.out).below).some_ hlt
                  have K := Lib.hid k
                  clear k
                  go_wp2_with fail
                  refine (read_c w4 _ (fun b h => h) (f i).D (f i).L (f i).dc (f i).S K.out.bl (by omega) K.out.h3 K.out.h4).mono ?_
                  intro e w5 hr
                  obtain ⟨A7, c7, B7, c8, rfl, hi5, hf5, hb5⟩ := read_own hr (by omega)
                  have I5 := Lib.hid hi5
                  have F5 := Lib.hid hf5
                  have B5 := Lib.hid (B4.out.trans (hb5.mono B4.out.size))
                  have V5 := Lib.hid (BR.only V4.out (Only.ofBelow (F := fun _ => False) hb5) (fun _ _ h => h))
                  have HZ := Lib.hid B4.out.size
                  clear hr hi5 hf5 hb5 V4 B4 K c0 c1 c2 c3 hbl
                  have e1 : run (f i).S (f i).L pAll 0 = rdO (f i) := rfl
                  have e2 : outL (f i).ni (f i).X (f i).nf (f i).Fs (f i).m = wrL (f i) := rfl
                  rw [e1] at I5 F5 ⊢
                  rw [e2] at V5 ⊢
                  clear e1 e2
                  have hZw : w.heap.size ≤ w5.heap.size := Nat.le_trans S.out.below.size B5.out.size
                  have hbx := (Below.refl w5.heap.size w5).alloc (Nat.le_refl _) (.cells #[.slice A7 (outI (rdO (f i))).length c7, .slice B7 (outF (rdO (f i))).length c8, .int .i64 (outM (rdO (f i)) : Int)] 25)
                  have B6 := Lib.hid (B5.out.trans (hbx.mono B5.out.size))
                  have V6 := Lib.hid (BR.only V5.out (Only.ofBelow (F := fun _ => False) hbx) (fun _ _ h => h))
                  have I6 := Lib.hid (own_mono (IR.below I5.out hbx) HZ.out)
                  have F6 := Lib.hid (own_mono (FR.below F5.out hbx) HZ.out)
                  have BX := Lib.hid (Blk.new w5 25 #[.slice A7 (outI (rdO (f i))).length c7, .slice B7 (outF (rdO (f i))).length c8, .int .i64 (outM (rdO (f i)) : Int)])
                  obtain ⟨q61, q62⟩ := own_cap V5.out
                  obtain ⟨q71, q72⟩ := own_cap I5.out
                  obtain ⟨q81, q82⟩ := own_cap F5.out
                  clear V5 I5 F5 B5 HZ hbx
                  by_cases hj2 : j = 2
                  · subst hj2
                    obtain ⟨wj, hwj⟩ : ∃ wj, wj = wr := ⟨_, rfl⟩
                    subst hwj
                    go_upto_region 28 with fail
                    generalize w5.alloc (.cells #[.slice A7 (outI (rdO (f i))).length c7, .slice B7 (outF (rdO (f i))).length c8, .int .i64 (outM (rdO (f i)) : Int)] 25) = w6 at *
                    have Z6 : Hid (ZS wj w6 w5.heap.size A6 (wrL (f i)).length c6 A7 (outI (rdO (f i))).length c7 B7 (outF (rdO (f i))).length c8 (outM (rdO (f i)) : Int)) := ⟨B6.out, ⟨_, rfl, V6.out⟩, ⟨insF (outI (rdO (f i))), by rw [← tab_insF]; exact I6.out⟩, BX.out⟩
                    generalize w5.heap.size = gx at *
                    clear B6 V6 I6 F6 BX
                    generalize (wrL (f i)).length = n6 at *
                    generalize (outI (rdO (f i))).length = n7 at *
                    generalize (outF (rdO (f i))).length = n8 at *
                    go_loopw [16] (fun kv wx => ∃ k : Nat, k ≤ n6 ∧ kv = .int .i64 (k : Int) ∧ Hid (ZS wj wx gx A6 n6 c6 A7 n7 c7 B7 n8 c8 (outM (rdO (f i)) : Int))) (fun kv _ => n6 - (intOf kv).toNat)
                    case atStart => exact ⟨0, by omega, rfl, Z6⟩
                    case round =>
                      clear Z6
                      obtain ⟨k, hk, rfl, Z⟩ := hrel
                      by_cases hkl : k < n6
                      · obtain ⟨g6, rfl⟩ := Z.out.addr6 (by omega)
                        obtain ⟨u0, x0⟩ := Z.out.cell6 hkl
                        have z0 := Z.out.froz6 k
                        have Z2 := Lib.hid (Z.out.put6 k (.int .u8 7) ⟨7, rfl⟩)
                        clear Z
                        go_wp2_with fail
                        go_roundw
                        case rel => exact ⟨k + 1, by omega, by go_num, Z2⟩
                        case measure => first | (simp [intOf]; done) | (simp [intOf]; omega)
                      · have hkE : k = n6 := by omega
                        have Z6 := Z
                        go_wp2_with fail
                        clear Z
                        go_loopw [17] (fun kv wx => ∃ k : Nat, k ≤ n7 ∧ kv = .int .i64 (k : Int) ∧ Hid (ZS wj wx gx A6 n6 c6 A7 n7 c7 B7 n8 c8 (outM (rdO (f i)) : Int))) (fun kv _ => n7 - (intOf kv).toNat)
                        case atStart => exact ⟨0, by omega, rfl, Z6⟩
                        case round =>
                          clear Z6
                          obtain ⟨k, hk, rfl, Z⟩ := hrel
                          have b0 : wr.cell? ⟨gx, 0, none⟩ = some (.slice A7 n7 c7) := Z.out.bx.cell 0
                          by_cases hkl : k < n7
                          · obtain ⟨g7, rfl⟩ := Z.out.addr7 (by omega)
                            obtain ⟨u0, x0⟩ := Z.out.cell7 (j := k * 5) (by omega)
                            obtain ⟨u1, x1⟩ := Z.out.cell7 (j := k * 5 + 1) (by omega)
                            obtain ⟨u2, x2⟩ := Z.out.cell7 (j := k * 5 + 2) (by omega)
                            obtain ⟨u3, x3⟩ := Z.out.cell7 (j := k * 5 + 3) (by omega)
                            obtain ⟨u4, x4⟩ := Z.out.cell7 (j := k * 5 + 4) (by omega)
                            have z0 := Z.out.froz7
                            have Z2 := Lib.hid (Z.out.put7 hkl ⟨-9, 0, 0, 0, 0⟩)
                            clear Z
                            have i2 : (k : Int) < (n7 : Int) := by omega
                            go_wp2_with fail
                            go_roundw
                            case rel => exact ⟨k + 1, by omega, by go_num, Z2⟩
                            case measure => first | (simp [intOf]; done) | (simp [intOf]; omega)
                          · have SN := Lib.hid (S.out.on Z.out.below)
                            clear Z S
                            go_wp2_with fail
                            go_roundw
                            case rel => exact ⟨3, by omega, by go_num, _, _, _, SN.out⟩
                            case measure => first | (simp [intOf]; done) | (simp [intOf]; omega)
                  · have hT : (2 * i + min j 2) / 2 = i := by omega
                    have hT2 : 2 * i + min (j + 1) 2 = 2 * i + min j 2 + 1 := by omega
                    have hTb : 2 * i + min j 2 ≤ 1000 := by omega
                    have hsm : sm f (2 * i + min j 2) = (outM (rdO (f i)) : Int) := by unfold sm; rw [hT]
                    have V6' : Hid (BR (w5.alloc (.cells #[.slice A7 (outI (rdO (f i))).length c7, .slice B7 (outF (rdO (f i))).length c8, .int .i64 (outM (rdO (f i)) : Int)] 25)) wr.heap.size (.slice A6 (wrL (f i)).length c6) (wrL (f ((2 * i + min j 2) / 2)))) := by rw [hT]; exact V6.out
                    have I6' : Hid (IR (w5.alloc (.cells #[.slice A7 (outI (rdO (f i))).length c7, .slice B7 (outF (rdO (f i))).length c8, .int .i64 (outM (rdO (f i)) : Int)] 25)) wr.heap.size (.slice A7 (outI (rdO (f i))).length c7) (outI (rdO (f ((2 * i + min j 2) / 2))))) := by rw [hT]; exact I6.out
                    have F6' : Hid (FR (w5.alloc (.cells #[.slice A7 (outI (rdO (f i))).length c7, .slice B7 (outF (rdO (f i))).length c8, .int .i64 (outM (rdO (f i)) : Int)] 25)) wr.heap.size (.slice B7 (outF (rdO (f i))).length c8) (outF (rdO (f ((2 * i + min j 2) / 2))))) := by rw [hT]; exact F6.out
                    have HSM := Lib.hid hsm
                    have HT2 := Lib.hid hT2
                    clear hT hT2 hsm V6 I6 F6
                    generalize 2 * i + min j 2 = T at *
                    obtain ⟨At, ct, rfl, ht1, -, -⟩ := own_shape S.out.o0
                    obtain ⟨Ac, cc, rfl, ht2, -, -⟩ := own_shape S.out.o1
                    obtain ⟨l0, hl0, lz0, ls0, lw0⟩ := s28_info'
                    obtain ⟨l1, hl1, lz1, ls1, lw1⟩ := s25_info
                    have LI0 := Lib.hid hl0
                    have LZ0 := Lib.hid lz0
                    have LS0 := Lib.hid ls0
                    have LW0 := Lib.hid lw0
                    have LI1 := Lib.hid hl1
                    have LZ1 := Lib.hid lz1
                    have LS1 := Lib.hid ls1
                    have LW1 := Lib.hid lw1
                    have ON0 : Hid (∀ u ∈ (#[.slice A6 (wrL (f i)).length c6] : Array Value).toList, u.oneCell' = true) := by intro u hu; simp at hu; subst hu; rfl
                    have ON1 : Hid (∀ u ∈ (#[.slice A7 (outI (rdO (f i))).length c7, .slice B7 (outF (rdO (f i))).length c8, .int .i64 (outM (rdO (f i)) : Int)] : Array Value).toList, u.oneCell' = true) := by intro u hu; simp at hu; rcases hu with rfl | rfl | rfl <;> rfl
                    have NB : Hid (T ≤ 10000000) := by show _ ≤ _; omega
                    have hjd : ((j : Int) == 2) = false := beq_eq_false_iff_ne.2 (by omega)
                    have HZ6 : Hid (w.heap.size ≤ (w5.alloc (.cells #[.slice A7 (outI (rdO (f i))).length c7, .slice B7 (outF (rdO (f i))).length c8, .int .i64 (outM (rdO (f i)) : Int)] 25)).heap.size) := Nat.le_trans S.out.below.size B6.out.size
                    clear hl0 lz0 ls0 lw0 hl1 lz1 ls1 lw1
                    go_upto_region 35 with fail
                    generalize w5.alloc (.cells #[.slice A7 (outI (rdO (f i))).length c7, .slice B7 (outF (rdO (f i))).length c8, .int .i64 (outM (rdO (f i)) : Int)] 25) = w6 at *
                    generalize w5.heap.size = gx at *
                    have S6 := Lib.hid (S.out.on B6.out)
                    go_wp2_with (first
                      | (have X2 := O7; at_builtin; go_must (refine wpList_one rfl (.tmp 141) (.tmp 143) 34 rfl w.heap.size 25 l1 _ 3 56 Try.underlying34 LI1.out LZ1.out LS1.out LW1.out rfl (by omega) (.slice Ac T cc) T (cells3 V1 V2 (sm f) T) rfl O7.out #[.slice A7 (outI (rdO (f i))).length c7, .slice B7 (outF (rdO (f i))).length c8, .int .i64 (outM (rdO (f i)) : Int)] rfl rfl ON1.out NB.out (by omega) HZ7.out ?_); go_must (intro g4 k4 w8 hown4 o4 hat4; have SN := Lib.hid (S.out.push B6.out V6'.out I6'.out F6'.out R3.out O3.out T3.out (by rw [HSM.out]; exact hown4) o4 hat4); clear hown4 o4 hat4 X2 O7; simp (config := { maxSteps := 3000000 }) only [Act.put, List.setIfInBounds_toArray, List.set_cons_succ, List.set_cons_zero]))
                      | (have X1 := S6; at_builtin; go_must (refine wpList_one rfl (.tmp 137) (.tmp 139) 33 rfl w.heap.size 28 l0 _ 1 24 Try.underlying33 LI0.out LZ0.out LS0.out LW0.out rfl (by omega) (.slice At T ct) T (cellsOf V0 T) rfl S6.out.o0 #[.slice A6 (wrL (f i)).length c6] rfl rfl ON0.out NB.out (by omega) HZ6.out ?_); go_must (intro g3 k3 w7 hown3 o3 hat3; have GE := grow_ge S6.out.o0 HZ6.out hat3; have O7 := Lib.hid (own_keep S6.out.o1 (block_other o3 GE.1 (by decide))); have BX7 := box_off BX.out o3 GE.1 (by decide); have z0 : w7.cell? ⟨gx, 0, none⟩ = some (.slice A7 (outI (rdO (f i))).length c7) := BX7.cell 0; have z1 : w7.cell? ⟨gx, 1, none⟩ = some (.slice B7 (outF (rdO (f i))).length c8) := BX7.cell 1; have z2 : w7.cell? ⟨gx, 2, none⟩ = some (.int .i64 (outM (rdO (f i)) : Int)) := BX7.cell 2; have HZ7 := Lib.hid (Nat.le_trans HZ6.out o3.size); have R3 := Lib.hid hown3; have O3 := Lib.hid o3; have T3 := Lib.hid hat3; clear hown3 o3 hat3 GE BX7 X1 S6; simp (config := { maxSteps := 3000000 }) only [Act.put, List.setIfInBounds_toArray, List.set_cons_succ, List.set_cons_zero])))
                    go_roundw
                    case rel => exact ⟨j + 1, by omega, by go_num, _, _, _, by rw [HT2.out]; exact SN.out⟩
                    case measure => first | (simp [intOf]; done) | (simp [intOf]; omega)
                · have hjE : 2 * (i + 1) = 2 * i + min j 2 := by omega
                  have SN : Hid (∃ V0 V1 V2, SA f w wr (2 * (i + 1)) u6 u7 V0 V1 V2) := by rw [hjE]; exact HR
                  clear HR hjE
                  go_wp2_with fail
                  go_roundw
                  case rel => exact ⟨i + 1, by omega, by go_num, SN⟩
                  case measure => first | (simp [intOf]; done) | (simp [intOf]; omega)
            · obtain rfl : n = i := by omega
              obtain ⟨V0, V1, V2, hSA⟩ := HR.out
              obtain ⟨At, ct, rfl, ht1, ht2, ht3⟩ := own_shape hSA.o0
              obtain ⟨Ac, cc, rfl, hu1, hu2, hu3⟩ := own_shape hSA.o1
              have S := Lib.hid hSA
              have HT3 : Hid (0 < 2 * n → ∃ g, At = some ⟨g, 0, none⟩) := fun h => let ⟨g, e, _⟩ := ht3 h; ⟨g, e⟩
              have HU3 : Hid (0 < 2 * n → ∃ g, Ac = some ⟨g, 0, none⟩) := fun h => let ⟨g, e, _⟩ := hu3 h; ⟨g, e⟩
              unfold maxLen at ht2 hu2
              clear HR hSA ht3 hu3
              go_upto_region 38 with fail
              go_loopw [18] (fun iv wx => ∃ i : Nat, i ≤ 2 * n ∧ iv = .int .i64 (i : Int) ∧ Hid (SA f w wx (2 * n) (.slice At (2 * n) ct) (.slice Ac (2 * n) cc) V0 V1 V2)) (fun iv _ => 2 * n - (intOf iv).toNat)
              case atStart => exact ⟨0, by omega, rfl, S⟩
              case round =>
                clear S
                obtain ⟨i, hi, rfl, S⟩ := hrel
                by_cases hlt : i < 2 * n
                · have hq : ((i : Int)).tdiv 2 = ((i / 2 : Nat) : Int) := by rw [Int.tdiv_eq_ediv_of_nonneg (by omega)]; omega
                  have hqn : i / 2 < n := by omega
                  obtain ⟨_, b, off, rfl, -⟩ := (HS.out.below S.out.below).2 (i / 2) hqn
                  obtain ⟨k, hbl, c0, c1, c2, c3⟩ := (HS.out.below S.out.below).some_ hqn
                  have K := Lib.hid k
                  obtain ⟨hn1, hn2, hn3⟩ := HK5.out (i / 2) hqn
                  obtain ⟨ta, rfl⟩ := HT3.out (by omega)
                  obtain ⟨ca, rfl⟩ := HU3.out (by omega)
                  obtain ⟨D, d0, eD⟩ := S.out.f0.shp3 hlt
                  obtain ⟨I, d1, eI⟩ := S.out.f1.shp3 hlt
                  obtain ⟨J, d2, eJ⟩ := S.out.f2.shp3 hlt
                  have FACT := Lib.hid (fun wx (h : SA f w wx (2 * n) (.slice (some ⟨ta, 0, none⟩) (2 * n) ct) (.slice (some ⟨ca, 0, none⟩) (2 * n) cc) V0 V1 V2) => h.at_ hlt (by omega) eD eI eJ)
                  clear k eD eI eJ
                  have i1 : ((i / 2 : Nat) : Int) < (n : Int) := by omega
                  have i2 : (i : Int) < ((2 * n : Nat) : Int) := by omega
                  have i3 : (0 : Int) ≤ (i : Int) := by omega
                  go_wp2_with fail
                  refine (dwrite_c wr _ (fun b h => h) (f (i / 2)).A (f (i / 2)).ni (f (i / 2)).ci (f (i / 2)).X (f (i / 2)).B (f (i / 2)).nf (f (i / 2)).cf (f (i / 2)).Fs (f (i / 2)).m K.out.il K.out.h1 K.out.fl K.out.h2 K.out.hm (by omega) (by omega)).mono ?_
                  intro e w4 hr
                  obtain ⟨A6, c6, rfl, hv4, hb4⟩ := write_one hr
                  have V4 := Lib.hid hv4
                  have S4 := Lib.hid (S.out.on hb4)
                  clear hr hv4 hb4 K c0 c1 c2 c3 hbl S
                  obtain ⟨k, hbl, c0, c1, c2, c3⟩ := (HS.out.below S4.out.below).some_ hqn
                  have K := Lib.hid k
                  clear k
                  go_wp2_with fail
                  refine (dread_c w4 _ (fun b h => h) (f (i / 2)).D (f (i / 2)).L (f (i / 2)).dc (f (i / 2)).S K.out.bl (by omega) K.out.h3 K.out.h4).mono ?_
                  intro e w5 hr
                  obtain ⟨A7, c7, B7, c8, rfl, hres, hb5⟩ := read_one hr (by omega)
                  have e1 : run (f (i / 2)).S (f (i / 2)).L pAll 0 = rdO (f (i / 2)) := rfl
                  have e2 : outL (f (i / 2)).ni (f (i / 2)).X (f (i / 2)).nf (f (i / 2)).Fs (f (i / 2)).m = wrL (f (i / 2)) := rfl
                  rw [e1] at hres ⊢
                  rw [e2] at V4 ⊢
                  clear e1 e2
                  have hbx := (Below.refl w5.heap.size w5).alloc (Nat.le_refl _) (.cells #[.slice A7 (outI (rdO (f (i / 2)))).length c7, .slice B7 (outF (rdO (f (i / 2)))).length c8, .int .i64 (outM (rdO (f (i / 2))) : Int)] 25)
                  have X6 := Lib.hid ((hres.more (G' := fun _ => True) (fun b h => trivial)).box)
                  have S6 := Lib.hid ((S4.out.on hb5).on hbx)
                  have V6 := Lib.hid ((V4.out.bl.below hb5).below hbx)
                  clear hr hres hb5 hbx V4 S4 K c0 c1 c2 c3 hbl
                  go_upto_region 42 with fail
                  generalize w5.alloc (.cells #[.slice A7 (outI (rdO (f (i / 2)))).length c7, .slice B7 (outF (rdO (f (i / 2)))).length c8, .int .i64 (outM (rdO (f (i / 2))) : Int)] 25) = w6 at *
                  generalize w5.heap.size = gx at *
                  generalize rdO (f (i / 2)) = oo at *
                  generalize wrL (f (i / 2)) = ll at *
                  have MK : Hid (∀ x, SA f w x (2 * n) (.slice (some ⟨ta, 0, none⟩) (2 * n) ct) (.slice (some ⟨ca, 0, none⟩) (2 * n) cc) V0 V1 V2 → BL x (fun b => b < w4.heap.size) A6 ll.length (lstF ll) → XB x (fun _ => True) gx oo A7 c7 B7 c8 →
                      x.cell? ⟨ta, i, none⟩ = some (.slice D ll.length d0) ∧ x.cell? ⟨ca, i * 3, none⟩ = some (.slice I (outI oo).length d1) ∧ x.cell? ⟨ca, i * 3 + 1, none⟩ = some (.slice J (outF oo).length d2) ∧ x.cell? ⟨ca, i * 3 + 2, none⟩ = some (.int .i64 (outM oo : Int)) ∧
                      x.cell? ⟨gx, 0, none⟩ = some (.slice A7 (outI oo).length c7) ∧ x.cell? ⟨gx, 1, none⟩ = some (.slice B7 (outF oo).length c8) ∧ x.cell? ⟨gx, 2, none⟩ = some (.int .i64 (outM oo : Int)) ∧
                      (convert 28 9 (.slice D ll.length d0)).run Try.prog x = .ok (.string (nameOf (slc (lstF ll) 0 ll.length))) x ∧ (convert 28 9 (.slice A6 ll.length c6)).run Try.prog x = .ok (.string (nameOf (slc (lstF ll) 0 ll.length))) x) := fun x hs hv hx => by
                    obtain ⟨⟨p0, p1, p2, p3⟩, hb, _⟩ := FACT.out x hs
                    exact ⟨p0, p1, p2, p3, hx.box.cell 0, hx.box.cell 1, hx.box.cell 2, bytes_string0 hb, bytes_string0 hv⟩
                  have hbd := (Below.refl w6.heap.size w6).drew
                  have S7 := Lib.hid (S6.out.on hbd)
                  have V7 := Lib.hid (V6.out.below hbd)
                  have X7 := Lib.hid (X6.out.below hbd)
                  have P6 := MK.out w6 S6.out V6.out X6.out
                  have P7 := MK.out w6.drew S7.out V7.out X7.out
                  clear hbd S6 V6 X6
                  generalize nameOf (slc (lstF ll) 0 ll.length) = ss at *
                  go_region_held3 (fun x => x.cell? ⟨ta, i, none⟩ = some (.slice D ll.length d0) ∧ x.cell? ⟨ca, i * 3, none⟩ = some (.slice I (outI oo).length d1) ∧ x.cell? ⟨ca, i * 3 + 1, none⟩ = some (.slice J (outF oo).length d2) ∧ x.cell? ⟨ca, i * 3 + 2, none⟩ = some (.int .i64 (outM oo : Int)) ∧
                      x.cell? ⟨gx, 0, none⟩ = some (.slice A7 (outI oo).length c7) ∧ x.cell? ⟨gx, 1, none⟩ = some (.slice B7 (outF oo).length c8) ∧ x.cell? ⟨gx, 2, none⟩ = some (.int .i64 (outM oo : Int)) ∧
                      (convert 28 9 (.slice D ll.length d0)).run Try.prog x = .ok (.string ss) x ∧ (convert 28 9 (.slice A6 ll.length c6)).run Try.prog x = .ok (.string ss) x)
                    (first | (go_keep; done) | exact P8 | exact P7 | exact P6)
                    ((first
                      | (go_at_call 20; refine (Res.same (FACT.out _ S7.out).2.2 X7.out.res).mono ?_; rintro e w12 ⟨rfl, hb12⟩; have S12 := Lib.hid (S7.out.on hb12); have P8 := MK.out w12 S12.out (V7.out.below hb12) (X7.out.below hb12); clear hb12)))
                  clear P6 P7 P8 MK FACT S7 V7 X7
                  go_wp2_with fail
                  go_roundw
                  case rel => exact ⟨i + 1, by omega, by go_num, S12⟩
                  case measure => first | (simp [intOf]; done) | (simp [intOf]; omega)
                · have hiE : i = 2 * n := by omega
                  have HB := Lib.hid S.out.below
                  have hb0 : Hid (∀ k, k < 2 * n → s0 f k ≤ 1000000) := fun k hk => by
                    obtain ⟨h1, h2, _⟩ := HK5.out (k / 2) (by omega)
                    exact wrL_max h1 h2
                  have hb12 : Hid (∀ k, k < 2 * n → s1_ f k ≤ 1000000 ∧ s2_ f k ≤ 1000000) := fun k hk => by
                    obtain ⟨_, _, h3⟩ := HK5.out (k / 2) (by omega)
                    obtain ⟨_, _, o3, o4, _⟩ := out_in (Bf := (f (k / 2)).S) (L := (f (k / 2)).L) (by omega)
                    exact ⟨Nat.le_trans o3 (by omega), Nat.le_trans o4 (by omega)⟩
                  go_wp2_with fail
                  refine (apart_c (2 * n) At Ac V0 V1 V2 (s0 f) (s1_ f) (s2_ f) (sm f) w.heap.size wr.heap.size wr ct cc ht1 hu1 (by omega) (by omega) (by omega) hb0.out (fun k hk => (hb12.out k hk).1) (fun k hk => (hb12.out k hk).2) S.out.apart S.out.below.size).mono ?_
                  rintro e w9 ⟨rfl, hb9⟩
                  have B9 := Lib.hid (HB.out.trans hb9)
                  clear hb9 S HB hb0 hb12 HT3 HU3
                  go_wp2_with fail
                  go_ret
                  exact ⟨rfl, B9.out⟩
        · go_wp2_with fail
          go_ret
          exact ⟨rfl, B.out⟩
      · go_wp2_with fail
        go_ret
        exact ⟨rfl, B.out⟩
end Go.Proofs.Ytafhjpehkfcmjaa
