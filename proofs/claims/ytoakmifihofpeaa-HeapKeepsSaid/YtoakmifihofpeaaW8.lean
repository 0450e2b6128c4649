/- The pair: an address is made of a call. -/
import Derived.Test.YtoakmifihofpeaaW7
import Derived.Deep.QuietTactic
import Derived.BigQuiet
set_option linter.unusedVariables false
set_option linter.unusedSimpArgs false
namespace Go.Proofs.Ytoakmifihofpeaa
open Go.RowKit
theorem bcell {W w1 : World} (hb : Below W.heap.size W w1) : (∀ b o, b < W.heap.size → w1.cell? ⟨b, o, none⟩ = W.cell? ⟨b, o, none⟩) ∧ (∀ b o, b < W.heap.size → w1.frozen? ⟨b, o, none⟩ = W.frozen? ⟨b, o, none⟩) :=
  ⟨fun b o h => hb.cell (p := ⟨b, o, none⟩) h, fun b o h => hb.frozen (p := ⟨b, o, none⟩) h⟩
def opV (k who near a i x : Int) : Value := .agg #[.int .i64 k, .int .i64 who, .int .i64 near, .int .i64 a, .int .i64 i, .int .i64 x]
def AddrPost (w : World) (e : Ending) (w' : World) : Prop := ∃ a, e = .returned (.int .i64 a) ∧ i64in a ∧ Below w.heap.size w w'
theorem drewN_below (w : World) (o : Obj) (n : Nat) : Below w.heap.size w ((w.alloc o).drewN n) := by
  have := (Below.refl w.heap.size w).alloc (Nat.le_refl _) o
  exact ⟨this.os, this.tape, this.output, this.size, this.block⟩
set_option maxRecDepth 100000 in
set_option maxHeartbeats 2000000 in
theorem address_c (w : World) (F : Nat → Prop) (p c : Nat) (q : QH) (r : RH) (l : List Int) (F1 F2 F3 : Nat → Prop) (g gr : Nat) (v : Value) (H : PairP w F p c q r l F1 F2 F3 g gr v) (k who near a i x : Int) (ha : i64in a) (hn : i64in near) :
    Calls Try.prog 21 #[.pointer (some ⟨p, 0, none⟩), .agg #[.int .i64 k, .int .i64 who, .int .i64 near, .int .i64 a, .int .i64 i, .int .i64 x]] w (AddrPost w) := by
  have hpl := H.box.lt
  have c2 : w.cell? ⟨p, 2, none⟩ = some v := H.box.cell 2
  have hcl := H.cl
  have hcc := H.cc
  obtain ⟨A, cap, hv, hcap⟩ := H.rw.shape
  rw [hv] at c2
  have HB (e : Int) (he : i64in e) (m : Nat) : AddrPost w (.returned (.int .i64 e)) ((w.alloc (.cells #[.int .i64 k, .int .i64 who, .int .i64 near, .int .i64 a, .int .i64 i, .int .i64 x] 30)).drewN m) := ⟨e, rfl, he, drewN_below w _ m⟩
  have HH := Lib.hid HB
  have HP := Lib.hid H
  have HV := Lib.hid hv
  clear H hv HB
  by_cases h0 : near = 0
  · have E := Lib.hid (HH.out a ha 0)
    have h0' : (near == 0) = true := beq_iff_eq.2 h0
    clear HH h0 HP HV hn ha
    go_enter Try.func21, Try.ntmps21
    go_wp2
    go_ret
    exact E.out
  · have h0' : (near == 0) = false := beq_eq_false_iff_ne.2 h0
    by_cases hl : l.length = 0
    · have E := Lib.hid (HH.out a ha 0)
      rw [hl] at c2 hcap
      clear HH h0 HP HV hn ha hl hcl
      go_enter Try.func21, Try.ntmps21
      go_wp2
      go_ret
      exact E.out
    · obtain ⟨vb, vc, hf, _, hvl, _⟩ := HP.out.rw.form (by omega)
      rw [HV.out] at hf
      injection hf with hA _ _
      subst hA
      have CL := Lib.hid (fun t (ht : t < l.length) => show w.cell? ⟨vb, t, none⟩ = some (.int .i64 (l.getD t 0)) from by
        have := HP.out.rw
        rw [HV.out] at this
        exact this.cell (nums_get l t ht))
      have AL := Lib.hid (fun t (ht : t < l.length) => show 0 ≤ l.getD t 0 ∧ l.getD t 0 ≤ 4611686018427387904 from by
        refine HP.out.al _ ?_
        rw [List.getD_eq_getElem?_getD, List.getElem?_eq_getElem ht]
        exact List.getElem_mem ht)
      obtain ⟨n, hnl⟩ : ∃ n, n = l.length := ⟨_, rfl⟩
      rw [← hnl] at c2 hcap hl hcl
      have HN := Lib.hid hnl
      have hl' : ((n : Int) == 0) = false := beq_eq_false_iff_ne.2 (by omega)
      have hnp : (0 : Int) < (n : Int) := by omega
      have t1 := Int.tmod_lt_of_pos a hnp
      have t2 := Int.lt_tmod_of_pos a hnp
      clear HP HV hnl
      have hodd : near.tmod 2 = 0 ∨ near.tmod 2 ≠ 0 := by omega
      by_cases hz : a.tmod (n : Int) < 0
      · obtain ⟨kk, hkk⟩ := Int.eq_ofNat_of_zero_le (show 0 ≤ a.tmod (n : Int) + (n : Int) by omega)
        have hkl : kk < n := by omega
        have cv := CL.out kk (by rw [← HN.out]; exact hkl)
        have al := AL.out kk (by rw [← HN.out]; exact hkl)
        generalize l.getD kk 0 = y at *
        have E (m : Nat) := Lib.hid (HH.out y ⟨by omega, by omega⟩ m)
        have E' (m : Nat) := Lib.hid (HH.out (y + 1) ⟨by omega, by omega⟩ m)
        obtain ⟨al0, al1⟩ := al
        rcases hodd with ho | ho
        · have ho' : (near.tmod 2 != 0) = false := bne_eq_false_iff_eq.2 ho
          clear HH CL AL ho hn ha h0 t1 t2
          go_enter Try.func21, Try.ntmps21
          go_wp2
          go_quiet (fail)
          go_wp2
          go_ret
          exact (E _).out
        · have ho' : (near.tmod 2 != 0) = true := bne_iff_ne.2 ho
          clear HH CL AL ho hn ha h0 t1 t2
          go_enter Try.func21, Try.ntmps21
          go_wp2
          go_quiet (fail)
          go_wp2
          go_ret
          exact (E' _).out
      · obtain ⟨kk, hkk⟩ := Int.eq_ofNat_of_zero_le (show 0 ≤ a.tmod (n : Int) by omega)
        have hkl : kk < n := by omega
        have cv := CL.out kk (by rw [← HN.out]; exact hkl)
        have al := AL.out kk (by rw [← HN.out]; exact hkl)
        generalize l.getD kk 0 = y at *
        have E (m : Nat) := Lib.hid (HH.out y ⟨by omega, by omega⟩ m)
        have E' (m : Nat) := Lib.hid (HH.out (y + 1) ⟨by omega, by omega⟩ m)
        obtain ⟨al0, al1⟩ := al
        rcases hodd with ho | ho
        · have ho' : (near.tmod 2 != 0) = false := bne_eq_false_iff_eq.2 ho
          clear HH CL AL ho hn ha h0 t1 t2 hz
          go_enter Try.func21, Try.ntmps21
          go_wp2
          go_quiet (fail)
          go_wp2
          go_ret
          exact (E _).out
        · have ho' : (near.tmod 2 != 0) = true := bne_iff_ne.2 ho
          clear HH CL AL ho hn ha h0 t1 t2 hz
          go_enter Try.func21, Try.ntmps21
          go_wp2
          go_quiet (fail)
          go_wp2
          go_ret
          exact (E' _).out
end Go.Proofs.Ytoakmifihofpeaa
