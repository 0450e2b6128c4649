/- Clones; r16's Outcome, Run. -/
import Derived.Test.YtkjfbojmkkdgoaaX16
set_option linter.unusedVariables false
set_option linter.unusedSimpArgs false
namespace Go.Proofs.Ytkjfbojmkkdgoaa
open Go.ChangeShapes Go.WideShapes Go.RowKit
section
variable {P : Program} {w : World}
theorem run_append_any (t ty e : TypeId) (i : TypeInfo) (z : Value) (size bytes : Nat) (ht : P.underlying t = some (.slice e)) (hi : P.info? e = some i) (hz : i.zero = some z)
    (hsize : i.size = size) (hby : i.bytes = bytes) (hzs : z.cells.size = size) (hsz : 0 < size)
    (v : Value) (n : Nat) (xs : List Value) (hown : w.ownsRow 0 e size v n xs)
    (ad : Option Addr) (m c : Nat) (news : List Value) (hl : news.length = m * size) (hnil : ad = none → m = 0) (hnews : ∀ a, ad = some a → ∀ j u, news[j]? = some u → w.cell? (a.add j) = some u) (h1 : ∀ u ∈ news, u.oneCell' = true)
    (h63 : n + m ≤ maxLen) (hbytes : (n + m) * bytes ≤ 140737488355328) :
    ∃ A cap w', (Builtin.append_ #[t, t] ty #[v, .slice ad m c]).run P w = .ok (.slice A (n + m) cap) w' ∧
      w'.ownsRow 0 e size (.slice A (n + m) cap) (n + m) (xs ++ news) ∧ w.grownBy w' v.ownBlock ∧ ((Value.slice A (n + m) cap).ownBlock = v.ownBlock ∨ (Value.slice A (n + m) cap).ownBlock = some w.heap.size) := by
  have sh : ∀ {w1 : World} {v1 : Value} {n1 : Nat} {xs1 : List Value}, w1.ownsRow 0 e size v1 n1 xs1 → ∃ A cap, v1 = .slice A n1 cap ∧ n1 ≤ cap := fun h => Row.shape (F := fun _ => True) ⟨h, fun _ _ => trivial⟩
  cases ad with
  | some a =>
    obtain ⟨v', w', hr, h2, h3, _, h5⟩ := run_append_own_at (P := P) w 0 t ty e i z size bytes ht hi hz hsize hby hzs hsz v n xs hown a m c news hl (hnews a rfl) h1 h63 hbytes (Nat.zero_le _)
    obtain ⟨A, cap, rfl, _⟩ := sh h2
    exact ⟨A, cap, w', hr, h2, h3, h5⟩
  | none =>
    obtain rfl := hnil rfl
    obtain ⟨A, cap, rfl, hle⟩ := sh hown
    have hn : news = [] := List.length_eq_zero_iff.1 (by rw [hl]; simp)
    subst hn
    refine ⟨A, cap, w, ?_, by simpa using hown, World.grownBy.refl _ _, .inl (by simp [Value.ownBlock])⟩
    cases A <;> simp [Builtin.append_, run_underlying ht, sizeOf, typeInfo, hi, hle, Builtin.lenOf, Builtin.firstCells, storeCells]
theorem wpList_append_any {ops : Array Oper} {rest : List Oper} {o : Oper} {a : Act} {Q : Exit → Act → World → Prop} (hgd : o.guard = none) (s x : Operand) (t : TypeId)
    (ho : o.op = .call { callee := .builtin .append, args := #[s, x], argTypes := #[t, t] })
    (e : TypeId) (i : TypeInfo) (z : Value) (size bytes : Nat) (ht : P.underlying t = some (.slice e)) (hi : P.info? e = some i) (hz : i.zero = some z)
    (hsize : i.size = size) (hby : i.bytes = bytes) (hzs : z.cells.size = size) (hsz : 0 < size)
    (v : Value) (n : Nat) (xs : List Value) (hs : a.eval s = v) (hown : w.ownsRow 0 e size v n xs)
    (ad : Option Addr) (m c : Nat) (news : List Value) (hx : a.eval x = .slice ad m c) (hl : news.length = m * size) (hnil : ad = none → m = 0) (hnews : ∀ a, ad = some a → ∀ j u, news[j]? = some u → w.cell? (a.add j) = some u) (h1 : ∀ u ∈ news, u.oneCell' = true)
    (h63 : n + m ≤ maxLen) (hbytes : (n + m) * bytes ≤ 140737488355328) (N : Nat) (hN : n + m = N) (ys : List Value) (hys : xs ++ news = ys) (S : Nat) (hS : w.heap.size = S)
    (h : ∀ A cap w', w'.ownsRow 0 e size (.slice A N cap) N ys → w.grownBy w' v.ownBlock → ((Value.slice A N cap).ownBlock = v.ownBlock ∨ (Value.slice A N cap).ownBlock = some S) → wpList P ops Q rest (a.put o.dst (.slice A N cap)) w') : wpList P ops Q (o :: rest) a w := by
  subst hN hys hS
  refine wpList_plain hgd fun _ hK => ?_
  obtain ⟨A, cap, w', hr, h2, h3, h4⟩ := run_append_any (P := P) t o.type e i z size bytes ht hi hz hsize hby hzs hsz v n xs hown ad m c news hl hnil hnews h1 h63 hbytes
  unfold Oper.wp execOp
  simp only [ho, resolve, invoke, builtin, Sem.run_bind, Sem.run_pure, Result.andThen_ok, List.map_toArray, List.map_cons, List.map_nil, hs, hx, hr]
  exact hK _ _ (h A cap w' h2 h3 h4)
end
end Go.Proofs.Ytkjfbojmkkdgoaa
namespace Go.Proofs.Ytkjfbojmkkdgoaa
open Go.RowKit
attribute [local go_sem ↓] Go.wp_at_zero Go.wp_at_succ
theorem ins_info : (Try.prog.info? 54).map (fun i => (i.zero, i.size, i.bytes)) = some (some (.agg #[.int .i64 0, .int .i64 0, .int .i64 0, .int .i64 0, .int .i64 0]), 5, 40) := by kernel_rfl
theorem fn_info : (Try.prog.info? 61).map (fun i => (i.zero, i.size, i.bytes)) = some (some (.agg #[.string ⟨#[]⟩, .int .i64 0, .int .i64 0, .int .i64 0, .int .i64 0]), 5, 48) := by kernel_rfl
theorem eqnil_22 (A : Option Addr) (m c : Nat) (w : World) : (binOp BinOp.eql 22 (.slice A m c) (.slice none 0 0)).run Try.prog w = .ok (.bool A.isNone) w := by cases A <;> kernel_rfl
set_option maxRecDepth 100000 in
set_option maxHeartbeats 8000000 in
theorem clone_ins (w : World) (A : Option Addr) (m c : Nat) (hA : A = none → m = 0 ∧ c = 0) (news : List Value) (hl : news.length = m * 5) (hnews : ∀ a, A = some a → ∀ j u, news[j]? = some u → w.cell? (a.add j) = some u) (h1 : ∀ u ∈ news, u.oneCell' = true) (hm : m < 2199023255552) :
    Calls Try.prog 31 #[.slice A m c] w fun e w' => ∃ v, e = .returned v ∧ Row w' (fun b => w.heap.size ≤ b) 54 5 v m news ∧ Below w.heap.size w w' := by
  cases A with
  | none =>
    obtain ⟨rfl, rfl⟩ := hA rfl
    have : news = [] := List.eq_nil_of_length_eq_zero (by omega)
    subst this
    have hq := eqnil_22 none 0 0
    simp only [Option.isNone_none] at hq
    clear hl hnews h1 hA
    go_enter Try.func31, Try.ntmps31
    go_wp2_with fail
    go_ret
    exact ⟨_, rfl, Row.nil_ _ _ _ _, Below.refl _ _⟩
  | some a =>
    obtain ⟨i0, hi, hz0, hz1, hz2⟩ := info_of ins_info
    have HI := Lib.hid hi
    have HZ0 := Lib.hid hz0
    have HZ1 := Lib.hid hz1
    have HZ2 := Lib.hid hz2
    have HL := Lib.hid hl
    have HN := Lib.hid (hnews a rfl)
    have H1 := Lib.hid h1
    have hq := eqnil_22 (some a) m c
    simp only [Option.isNone_some] at hq
    clear hi hz0 hz1 hz2 hl hnews h1 hA
    go_enter Try.func31, Try.ntmps31
    have OW : Hid ((w.alloc (.cells #[] 54)).ownsRow 0 54 5 (.slice (some ⟨w.heap.size, 0, none⟩) 0 0) 0 []) := ⟨rfl, .inr ⟨w.heap.size, 0, #[], rfl, Nat.zero_le _, heap_alloc_new w _, Nat.le_refl _, Nat.zero_le _, rfl, rfl⟩⟩
    have NW : Hid (∀ b, some a = some b → ∀ j u, news[j]? = some u → (w.alloc (.cells #[] 54)).cell? (b.add j) = some u) := fun b hb j u hj => by
      injection hb with hb
      subst hb
      have h2 := HN.out j u hj
      exact (World.cell?_alloc_some w _ _ (by rw [h2]; rfl)).trans h2
    go_wp2_with (at_builtin; go_must (refine wpList_append_any rfl (.tmp 5) (.tmp 6) 22 rfl 54 i0 _ 5 40 Try.underlying22 HI.out HZ0.out HZ1.out HZ2.out rfl (by omega) (.slice (some ⟨w.heap.size, 0, none⟩) 0 0) 0 [] rfl OW.out (some a) m c news rfl HL.out (fun h => by cases h) NW.out H1.out (by unfold maxLen; omega) (by omega) m (by omega) news rfl (w.heap.size + 1) (by simp) ?_); go_must (intro A1 cap1 w1 r1 g1 h1; have R1 := Lib.hid r1; have G1 := Lib.hid g1; have H1 := Lib.hid h1; clear r1 g1 h1))
    go_ret
    refine ⟨.slice A1 m cap1, rfl, ⟨R1.out, fun b hb => ?_⟩, ((((Only.refl (fun _ => False) w).alloc _).grown G1.out (F := fun _ => False)) (fun k hk => .inr ?_)).toBelow (Nat.le_refl _) fun _ _ h => h⟩
    · rcases H1.out with e | e
      · rw [e] at hb
        have : w.heap.size = b := by simpa [Value.ownBlock] using hb
        show w.heap.size ≤ b
        omega
      · rw [e] at hb
        injection hb with hb
        show w.heap.size ≤ b
        omega
    · have : w.heap.size = k := by simpa [Value.ownBlock] using hk
      omega
theorem eqnil_23 (A : Option Addr) (m c : Nat) (w : World) : (binOp BinOp.eql 23 (.slice A m c) (.slice none 0 0)).run Try.prog w = .ok (.bool A.isNone) w := by cases A <;> kernel_rfl
set_option maxRecDepth 100000 in
set_option maxHeartbeats 8000000 in
theorem clone_fns (w : World) (A : Option Addr) (m c : Nat) (hA : A = none → m = 0 ∧ c = 0) (news : List Value) (hl : news.length = m * 5) (hnews : ∀ a, A = some a → ∀ j u, news[j]? = some u → w.cell? (a.add j) = some u) (h1 : ∀ u ∈ news, u.oneCell' = true) (hm : m < 2199023255552) :
    Calls Try.prog 32 #[.slice A m c] w fun e w' => ∃ v, e = .returned v ∧ Row w' (fun b => w.heap.size ≤ b) 61 5 v m news ∧ Below w.heap.size w w' := by
  cases A with
  | none =>
    obtain ⟨rfl, rfl⟩ := hA rfl
    have : news = [] := List.eq_nil_of_length_eq_zero (by omega)
    subst this
    have hq := eqnil_23 none 0 0
    simp only [Option.isNone_none] at hq
    clear hl hnews h1 hA
    go_enter Try.func32, Try.ntmps32
    go_wp2_with fail
    go_ret
    exact ⟨_, rfl, Row.nil_ _ _ _ _, Below.refl _ _⟩
  | some a =>
    obtain ⟨i0, hi, hz0, hz1, hz2⟩ := info_of fn_info
    have HI := Lib.hid hi
    have HZ0 := Lib.hid hz0
    have HZ1 := Lib.hid hz1
    have HZ2 := Lib.hid hz2
    have HL := Lib.hid hl
    have HN := Lib.hid (hnews a rfl)
    have H1 := Lib.hid h1
    have hq := eqnil_23 (some a) m c
    simp only [Option.isNone_some] at hq
    clear hi hz0 hz1 hz2 hl hnews h1 hA
    go_enter Try.func32, Try.ntmps32
    have OW : Hid ((w.alloc (.cells #[] 61)).ownsRow 0 61 5 (.slice (some ⟨w.heap.size, 0, none⟩) 0 0) 0 []) := ⟨rfl, .inr ⟨w.heap.size, 0, #[], rfl, Nat.zero_le _, heap_alloc_new w _, Nat.le_refl _, Nat.zero_le _, rfl, rfl⟩⟩
    have NW : Hid (∀ b, some a = some b → ∀ j u, news[j]? = some u → (w.alloc (.cells #[] 61)).cell? (b.add j) = some u) := fun b hb j u hj => by
      injection hb with hb
      subst hb
      have h2 := HN.out j u hj
      exact (World.cell?_alloc_some w _ _ (by rw [h2]; rfl)).trans h2
    go_wp2_with (at_builtin; go_must (refine wpList_append_any rfl (.tmp 5) (.tmp 6) 23 rfl 61 i0 _ 5 48 Try.underlying23 HI.out HZ0.out HZ1.out HZ2.out rfl (by omega) (.slice (some ⟨w.heap.size, 0, none⟩) 0 0) 0 [] rfl OW.out (some a) m c news rfl HL.out (fun h => by cases h) NW.out H1.out (by unfold maxLen; omega) (by omega) m (by omega) news rfl (w.heap.size + 1) (by simp) ?_); go_must (intro A1 cap1 w1 r1 g1 h1; have R1 := Lib.hid r1; have G1 := Lib.hid g1; have H1 := Lib.hid h1; clear r1 g1 h1))
    go_ret
    refine ⟨.slice A1 m cap1, rfl, ⟨R1.out, fun b hb => ?_⟩, ((((Only.refl (fun _ => False) w).alloc _).grown G1.out (F := fun _ => False)) (fun k hk => .inr ?_)).toBelow (Nat.le_refl _) fun _ _ h => h⟩
    · rcases H1.out with e | e
      · rw [e] at hb
        have : w.heap.size = b := by simpa [Value.ownBlock] using hb
        show w.heap.size ≤ b
        omega
      · rw [e] at hb
        injection hb with hb
        show w.heap.size ≤ b
        omega
    · have : w.heap.size = k := by simpa [Value.ownBlock] using hk
      omega
theorem eqnil_36 (A : Option Addr) (m c : Nat) (w : World) : (binOp BinOp.eql 36 (.slice A m c) (.slice none 0 0)).run Try.prog w = .ok (.bool A.isNone) w := by cases A <;> kernel_rfl
set_option maxRecDepth 100000 in
set_option maxHeartbeats 8000000 in
theorem clone_nums (w : World) (A : Option Addr) (m c : Nat) (hA : A = none → m = 0 ∧ c = 0) (news : List Value) (hl : news.length = m * 1) (hnews : ∀ a, A = some a → ∀ j u, news[j]? = some u → w.cell? (a.add j) = some u) (h1 : ∀ u ∈ news, u.oneCell' = true) (hm : m < 2199023255552) :
    Calls Try.prog 33 #[.slice A m c] w fun e w' => ∃ v, e = .returned v ∧ Row w' (fun b => w.heap.size ≤ b) 3 1 v m news ∧ Below w.heap.size w w' := by
  cases A with
  | none =>
    obtain ⟨rfl, rfl⟩ := hA rfl
    have : news = [] := List.eq_nil_of_length_eq_zero (by omega)
    subst this
    have hq := eqnil_36 none 0 0
    simp only [Option.isNone_none] at hq
    clear hl hnews h1 hA
    go_enter Try.func33, Try.ntmps33
    go_wp2_with fail
    go_ret
    exact ⟨_, rfl, Row.nil_ _ _ _ _, Below.refl _ _⟩
  | some a =>
    obtain ⟨i0, hi, hz0, hz1, hz2⟩ := info_of int_info
    have HI := Lib.hid hi
    have HZ0 := Lib.hid hz0
    have HZ1 := Lib.hid hz1
    have HZ2 := Lib.hid hz2
    have HL := Lib.hid hl
    have HN := Lib.hid (hnews a rfl)
    have H1 := Lib.hid h1
    have hq := eqnil_36 (some a) m c
    simp only [Option.isNone_some] at hq
    clear hi hz0 hz1 hz2 hl hnews h1 hA
    go_enter Try.func33, Try.ntmps33
    have OW : Hid ((w.alloc (.cells #[] 3)).ownsRow 0 3 1 (.slice (some ⟨w.heap.size, 0, none⟩) 0 0) 0 []) := ⟨rfl, .inr ⟨w.heap.size, 0, #[], rfl, Nat.zero_le _, heap_alloc_new w _, Nat.le_refl _, Nat.zero_le _, rfl, rfl⟩⟩
    have NW : Hid (∀ b, some a = some b → ∀ j u, news[j]? = some u → (w.alloc (.cells #[] 3)).cell? (b.add j) = some u) := fun b hb j u hj => by
      injection hb with hb
      subst hb
      have h2 := HN.out j u hj
      exact (World.cell?_alloc_some w _ _ (by rw [h2]; rfl)).trans h2
    go_wp2_with (at_builtin; go_must (refine wpList_append_any rfl (.tmp 5) (.tmp 6) 36 rfl 3 i0 _ 1 8 Try.underlying36 HI.out HZ0.out HZ1.out HZ2.out rfl (by omega) (.slice (some ⟨w.heap.size, 0, none⟩) 0 0) 0 [] rfl OW.out (some a) m c news rfl HL.out (fun h => by cases h) NW.out H1.out (by unfold maxLen; omega) (by omega) m (by omega) news rfl (w.heap.size + 1) (by simp) ?_); go_must (intro A1 cap1 w1 r1 g1 h1; have R1 := Lib.hid r1; have G1 := Lib.hid g1; have H1 := Lib.hid h1; clear r1 g1 h1))
    go_ret
    refine ⟨.slice A1 m cap1, rfl, ⟨R1.out, fun b hb => ?_⟩, ((((Only.refl (fun _ => False) w).alloc _).grown G1.out (F := fun _ => False)) (fun k hk => .inr ?_)).toBelow (Nat.le_refl _) fun _ _ h => h⟩
    · rcases H1.out with e | e
      · rw [e] at hb
        have : w.heap.size = b := by simpa [Value.ownBlock] using hb
        show w.heap.size ≤ b
        omega
      · rw [e] at hb
        injection hb with hb
        show w.heap.size ≤ b
        omega
    · have : w.heap.size = k := by simpa [Value.ownBlock] using hk
      omega
theorem eqnil_42 (A : Option Addr) (m c : Nat) (w : World) : (binOp BinOp.eql 42 (.slice A m c) (.slice none 0 0)).run Try.prog w = .ok (.bool A.isNone) w := by cases A <;> kernel_rfl
set_option maxRecDepth 100000 in
set_option maxHeartbeats 8000000 in
theorem clone_evs (w : World) (A : Option Addr) (m c : Nat) (hA : A = none → m = 0 ∧ c = 0) (news : List Value) (hl : news.length = m * 2) (hnews : ∀ a, A = some a → ∀ j u, news[j]? = some u → w.cell? (a.add j) = some u) (h1 : ∀ u ∈ news, u.oneCell' = true) (hm : m < 2199023255552) :
    Calls Try.prog 39 #[.slice A m c] w fun e w' => ∃ v, e = .returned v ∧ Row w' (fun b => w.heap.size ≤ b) 50 2 v m news ∧ Below w.heap.size w w' := by
  cases A with
  | none =>
    obtain ⟨rfl, rfl⟩ := hA rfl
    have : news = [] := List.eq_nil_of_length_eq_zero (by omega)
    subst this
    have hq := eqnil_42 none 0 0
    simp only [Option.isNone_none] at hq
    clear hl hnews h1 hA
    go_enter Try.func39, Try.ntmps39
    go_wp2_with fail
    go_ret
    exact ⟨_, rfl, Row.nil_ _ _ _ _, Below.refl _ _⟩
  | some a =>
    obtain ⟨i0, hi, hz0, hz1, hz2⟩ := info_of ev_info
    have HI := Lib.hid hi
    have HZ0 := Lib.hid hz0
    have HZ1 := Lib.hid hz1
    have HZ2 := Lib.hid hz2
    have HL := Lib.hid hl
    have HN := Lib.hid (hnews a rfl)
    have H1 := Lib.hid h1
    have hq := eqnil_42 (some a) m c
    simp only [Option.isNone_some] at hq
    clear hi hz0 hz1 hz2 hl hnews h1 hA
    go_enter Try.func39, Try.ntmps39
    have OW : Hid ((w.alloc (.cells #[] 50)).ownsRow 0 50 2 (.slice (some ⟨w.heap.size, 0, none⟩) 0 0) 0 []) := ⟨rfl, .inr ⟨w.heap.size, 0, #[], rfl, Nat.zero_le _, heap_alloc_new w _, Nat.le_refl _, Nat.zero_le _, rfl, rfl⟩⟩
    have NW : Hid (∀ b, some a = some b → ∀ j u, news[j]? = some u → (w.alloc (.cells #[] 50)).cell? (b.add j) = some u) := fun b hb j u hj => by
      injection hb with hb
      subst hb
      have h2 := HN.out j u hj
      exact (World.cell?_alloc_some w _ _ (by rw [h2]; rfl)).trans h2
    go_wp2_with (at_builtin; go_must (refine wpList_append_any rfl (.tmp 5) (.tmp 6) 42 rfl 50 i0 _ 2 16 Try.underlying42 HI.out HZ0.out HZ1.out HZ2.out rfl (by omega) (.slice (some ⟨w.heap.size, 0, none⟩) 0 0) 0 [] rfl OW.out (some a) m c news rfl HL.out (fun h => by cases h) NW.out H1.out (by unfold maxLen; omega) (by omega) m (by omega) news rfl (w.heap.size + 1) (by simp) ?_); go_must (intro A1 cap1 w1 r1 g1 h1; have R1 := Lib.hid r1; have G1 := Lib.hid g1; have H1 := Lib.hid h1; clear r1 g1 h1))
    go_ret
    refine ⟨.slice A1 m cap1, rfl, ⟨R1.out, fun b hb => ?_⟩, ((((Only.refl (fun _ => False) w).alloc _).grown G1.out (F := fun _ => False)) (fun k hk => .inr ?_)).toBelow (Nat.le_refl _) fun _ _ h => h⟩
    · rcases H1.out with e | e
      · rw [e] at hb
        have : w.heap.size = b := by simpa [Value.ownBlock] using hb
        show w.heap.size ≤ b
        omega
      · rw [e] at hb
        injection hb with hb
        show w.heap.size ≤ b
        omega
    · have : w.heap.size = k := by simpa [Value.ownBlock] using hk
      omega
set_option maxRecDepth 100000 in
set_option maxHeartbeats 8000000 in
theorem evs_get (xs : List (Int × Int)) : ∀ u ∈ evs xs, u.oneCell' = true := by
  induction xs with
  | nil => intro u hu; cases hu
  | cons e r ih =>
    intro u hu
    simp only [evs, List.mem_cons] at hu
    rcases hu with rfl | rfl | hu
    · rfl
    · rfl
    · exact ih u hu
theorem Row.news {w : World} {F : Nat → Prop} {e : TypeId} {size n : Nat} {v : Value} {xs : List Value} (h : Row w F e size v n xs) : ∃ A cap, v = .slice A n cap ∧ (A = none → n = 0 ∧ cap = 0) ∧ xs.length = n * size ∧ ∀ a, A = some a → ∀ j u, xs[j]? = some u → w.cell? (a.add j) = some u := by
  refine h.1.2.elim (fun hh => ?_) (fun hh => ?_)
  · obtain ⟨rfl, rfl⟩ := hh
    exact ⟨none, 0, rfl, fun _ => ⟨rfl, rfl⟩, h.1.1, fun a ha => by cases ha⟩
  · obtain ⟨g, cap, cur, rfl, hb, hg, hn, hc, hs, hx⟩ := hh
    refine ⟨_, cap, rfl, (fun hh => by cases hh), h.1.1, fun a ha j u hj => ?_⟩
    injection ha with ha
    subst ha
    exact h.1.cells rfl j u hj
theorem Only.cell_any {F : Nat → Prop} {w w' : World} (o : Only F w w') {a : Addr} (hb : a.block < w.heap.size) (hf : ¬ F a.block) : w'.cell? a = w.cell? a := World.cell?_of_block (o.block _ hb hf)
def outR (q : MQ) (v : Value) : Value := .agg #[v, .int .i64 q.fin, .int .i64 q.kind, .int .i64 q.val, .int .i64 q.steps, .int .i64 q.hp.tk, .int .i64 q.depth]
set_option maxRecDepth 100000 in
set_option maxHeartbeats 8000000 in
theorem outcome_c (w : World) (C : Nat → Prop) (z : Nat → Nat) (g : Nat) (p : MP) (K : MK) (q : MQ) (c : Nat) (h : MZ w C z g p K q c) (hlen : q.ev.length < 2199023255552) :
    Calls Try.prog 22 #[.pointer (some ⟨g, 0, none⟩)] w fun e w' => ∃ v, e = .returned (outR q v) ∧ Row w' (fun b => w.heap.size ≤ b) 50 2 v q.ev.length (evs q.ev) ∧ Below w.heap.size w w' := by
  have k68 := h.k68
  have k69 := h.k69
  have k70 := h.k70
  have k71 := h.k71
  have k72 := h.k72
  have k73 := h.k73
  have k74 := h.k74
  have hl := h.lt
  have H := Lib.hid h
  obtain ⟨A, cap, hv, hA, hxl, hcells⟩ := h.ea.news
  rw [hv] at k68
  clear h
  go_enter Try.func22, Try.ntmps22
  go_wp2_with fail
  have B1 : Blk ((w.alloc (.cells #[.slice none 0 0, .int .i64 0, .int .i64 0, .int .i64 0, .int .i64 0, .int .i64 0, .int .i64 0] 44)).alloc (.cells #[.slice A q.ev.length cap, .int .i64 q.fin, .int .i64 q.kind, .int .i64 q.val, .int .i64 q.steps, .int .i64 0, .int .i64 q.depth] 44)) w.heap.size 44 #[.slice none 0 0, .int .i64 0, .int .i64 0, .int .i64 0, .int .i64 0, .int .i64 0, .int .i64 0] := (Blk.new w 44 _).alloc _
  have B2 : Blk ((w.alloc (.cells #[.slice none 0 0, .int .i64 0, .int .i64 0, .int .i64 0, .int .i64 0, .int .i64 0, .int .i64 0] 44)).alloc (.cells #[.slice A q.ev.length cap, .int .i64 q.fin, .int .i64 q.kind, .int .i64 q.val, .int .i64 q.steps, .int .i64 0, .int .i64 q.depth] 44)) (w.heap.size + 1) 44 #[.slice A q.ev.length cap, .int .i64 q.fin, .int .i64 q.kind, .int .i64 q.val, .int .i64 q.steps, .int .i64 0, .int .i64 q.depth] := by
    have := Blk.new (w.alloc (.cells #[.slice none 0 0, .int .i64 0, .int .i64 0, .int .i64 0, .int .i64 0, .int .i64 0, .int .i64 0] 44)) 44 #[.slice A q.ev.length cap, .int .i64 q.fin, .int .i64 q.kind, .int .i64 q.val, .int .i64 q.steps, .int .i64 0, .int .i64 q.depth]
    rwa [show (w.alloc (.cells #[.slice none 0 0, .int .i64 0, .int .i64 0, .int .i64 0, .int .i64 0, .int .i64 0, .int .i64 0] 44)).heap.size = w.heap.size + 1 by simp] at this
  have OA : Only (fun _ => False) w ((w.alloc (.cells #[.slice none 0 0, .int .i64 0, .int .i64 0, .int .i64 0, .int .i64 0, .int .i64 0, .int .i64 0] 44)).alloc (.cells #[.slice A q.ev.length cap, .int .i64 q.fin, .int .i64 q.kind, .int .i64 q.val, .int .i64 q.steps, .int .i64 0, .int .i64 q.depth] 44)) := ((Only.refl (fun _ => False) w).alloc _).alloc _
  have hsz : ((w.alloc (.cells #[.slice none 0 0, .int .i64 0, .int .i64 0, .int .i64 0, .int .i64 0, .int .i64 0, .int .i64 0] 44)).alloc (.cells #[.slice A q.ev.length cap, .int .i64 q.fin, .int .i64 q.kind, .int .i64 q.val, .int .i64 q.steps, .int .i64 0, .int .i64 q.depth] 44)).heap.size = w.heap.size + 2 := by simp
  clear k68 k69 k70 k71 k72 k73 k74
  generalize World.alloc _ _ = w2 at *
  refine (clone_evs w2 A q.ev.length cap hA (evs q.ev) hxl (fun a ha j u hj => ?_) (evs_get _) hlen).mono ?_
  · have h2 := hcells a ha j u hj
    exact (OA.cell_any (World.block_lt_of_cell? w _ h2) (fun h => h)).trans h2
  rintro e w3 ⟨v, rfl, R3, hb⟩
  obtain ⟨A2, cap2, rfl, -⟩ := R3.shape
  have B1' := B1.below hb (by omega)
  have B2' := B2.below hb (by omega)
  have O3 := OA.trans (Only.ofBelow (F := fun _ => False) hb) fun _ _ h => h
  have H3 := Lib.hid (fun u : Value => H.out.keep (O3.setCell (p := ⟨w.heap.size + 1, 0, none⟩) (.inr (Nat.le_succ _)) u) (fun _ _ _ h => h))
  have k63 := (H.out.keep O3 (fun _ _ _ h => h)).k63
  have hgl := (H.out.keep O3 (fun _ _ _ h => h)).lt
  have x0 := B1'.cell 0
  have y0 := B2'.cell 0
  have x1 := B1'.cell 1
  have y1 := B2'.cell 1
  have x2 := B1'.cell 2
  have y2 := B2'.cell 2
  have x3 := B1'.cell 3
  have y3 := B2'.cell 3
  have x4 := B1'.cell 4
  have y4 := B2'.cell 4
  have x5 := B1'.cell 5
  have y5 := B2'.cell 5
  have x6 := B1'.cell 6
  have y6 := B2'.cell 6
  have zx := B1'.frozen
  have zy := B2'.frozen
  have hs3 : w3.heap.size = w3.heap.size := rfl
  have b23 := B1'.lt
  have b33 := B2'.lt
  have BL1 := Lib.hid B1'
  have R3 := Lib.hid R3
  have O3 := Lib.hid O3
  have HB := Lib.hid hb
  clear B1 B2 OA hb B1' B2' hs3
  simp only [List.getElem?_toArray, List.getElem?_cons_zero, List.getElem?_cons_succ] at x0 x1 x2 x3 x4 x5 x6 y0 y1 y2 y3 y4 y5 y6
  have hgn : g ≠ w.heap.size := by omega
  have hgn1 : g ≠ w.heap.size + 1 := by omega
  generalize hb1 : w.heap.size = b1 at *
  have WC := Lib.hid (fun w' (hm : MZ w' C z g p K q c) => hwords_c w' _ p.hp c q.hp hm.ha)
  go_wp2_with (go_at_call 40; refine (WC.out _ (H3.out _)).mono ?_; rintro e w4 ⟨rfl, hw4⟩; subst hw4)
  have OF : Only (fun b => b = b1 ∨ b = b1 + 1) w3 (((((((((w3.setCell ⟨b1 + 1, 0, none⟩ (.slice A2 q.ev.length cap2)).setCell ⟨b1 + 1, 5, none⟩ (.int .i64 q.hp.tk)).setCell ⟨b1, 0, none⟩ (.slice A2 q.ev.length cap2)).setCell ⟨b1, 1, none⟩ (.int .i64 q.fin)).setCell ⟨b1, 2, none⟩ (.int .i64 q.kind)).setCell ⟨b1, 3, none⟩ (.int .i64 q.val)).setCell ⟨b1, 4, none⟩ (.int .i64 q.steps)).setCell ⟨b1, 5, none⟩ (.int .i64 q.hp.tk)).setCell ⟨b1, 6, none⟩ (.int .i64 q.depth)) :=
    ((((((((((Only.refl _ w3).setCell (.inl (.inr rfl)) _).setCell (.inl (.inr rfl)) _).setCell (.inl (.inl rfl)) _).setCell (.inl (.inl rfl)) _).setCell (.inl (.inl rfl)) _).setCell (.inl (.inl rfl)) _).setCell (.inl (.inl rfl)) _).setCell (.inl (.inl rfl)) _).setCell (.inl (.inl rfl)) _)
  have BF := ((((((((BL1.out.far (p := ⟨b1 + 1, 0, none⟩) (by simp) (.slice A2 q.ev.length cap2)).far (p := ⟨b1 + 1, 5, none⟩) (by simp) (.int .i64 q.hp.tk)).set_ 0 (.slice A2 q.ev.length cap2)).set_ 1 (.int .i64 q.fin)).set_ 2 (.int .i64 q.kind)).set_ 3 (.int .i64 q.val)).set_ 4 (.int .i64 q.steps)).set_ 5 (.int .i64 q.hp.tk)).set_ 6 (.int .i64 q.depth)
  simp only [List.setIfInBounds_toArray, List.set_cons_zero, List.set_cons_succ] at BF
  generalize World.setCell _ _ _ = w9 at *
  refine bodyPost_ret (results_cell rfl (a := ⟨b1, 0, none⟩) rfl (run_loadVar_row _ b1 44 44 _ (0, 0) _ BF Try.underlying44 rfl (by kernel_rfl))) rfl ?_
  refine ⟨_, rfl, (R3.out.only OF fun b hb hF => ?_).mono fun b _ hb => ?_, ?_⟩
  · have h2 : w2.heap.size ≤ b := R3.out.2 b hb
    omega
  · have h2 : w2.heap.size ≤ b := hb
    omega
  · exact (O3.out.trans (G := fun b => b = b1 ∨ b = b1 + 1) OF fun b h3 h4 => by omega).toBelow (Nat.le_refl _) fun _ _ h => h
end Go.Proofs.Ytkjfbojmkkdgoaa
