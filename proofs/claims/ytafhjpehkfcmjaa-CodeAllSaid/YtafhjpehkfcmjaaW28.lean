/- code's Read: what it keeps; the plain part. -/
import Derived.Test.YtafhjpehkfcmjaaW27
set_option linter.unusedVariables false
set_option linter.unusedSimpArgs false
namespace Go.Proofs.Ytafhjpehkfcmjaa
open Go.RowKit
def zeroC : Value := .agg #[.slice none 0 0, .slice none 0 0, .int .i64 0]
def ReadPost (Bf : Nat → UInt8) (L : Nat) (w : World) (e : Ending) (w' : World) : Prop :=
  Below w.heap.size w w' ∧ ((268435456 < L ∧ e = .returned (.tuple #[zeroC, .int .i64 0, .int .i64 2])) ∨
    (L ≤ 268435456 ∧ ∃ q : Nat, run Bf L pAll 0 = .bad q ∧ e = .returned (.tuple #[zeroC, .int .i64 (q : Int), .int .i64 220])) ∨
    (L ≤ 268435456 ∧ ∃ cd iv fv, run Bf L pAll 0 = .good cd ∧ e = .returned (.tuple #[.agg #[iv, fv, .int .i64 (cd.main : Int)], .int .i64 0, .int .i64 0]) ∧ IR w' w.heap.size iv cd.ins ∧ FR w' w.heap.size fv cd.fns))
/-! ## the plain part -/
def k3 (m : Nat) (fs : List Fn) : Pr := pBody fs.length fs [] fun xs => .done ⟨xs, fs, m⟩
def k2 (n : Nat) : Pr := pNum 4 0 (n - 1) fun m => pFns m n [] (k3 m)
def k1 : Pr := pNum 4 1 4294967295 k2
def headL : List UInt8 := [113, 114, 49, 54]
theorem pAll_def : pAll = pHead headL k1 := rfl
def FsOk (m : Nat) (fs : List Fn) : Prop := ∀ fs0 f fs1, fs = fs0 ++ f :: fs1 → FnG m fs0 f
theorem FsOk.nil (m : Nat) : FsOk m [] := fun fs0 f fs1 h => by simp at h
theorem FsOk.snoc {m : Nat} {fs : List Fn} {f : Fn} (h : FsOk m fs) (hf : FnG m fs f) : FsOk m (fs ++ [f]) := by
  intro fs0 g fs1 he
  rcases List.eq_nil_or_concat fs1 with rfl | ⟨t, y, rfl⟩
  · have := List.append_inj' he rfl
    obtain ⟨rfl, h2⟩ := this
    injection h2 with h2
    subst h2
    exact hf
  · rw [List.concat_eq_append, show fs0 ++ g :: (t ++ [y]) = (fs0 ++ g :: t) ++ [y] by simp] at he
    have := List.append_inj' he rfl
    exact h fs0 g t this.1
theorem FsOk.last {m : Nat} {fs fs0 : List Fn} {l : Fn} (h : FsOk m fs) (he : fs = fs0 ++ [l]) : FnG m fs0 l := h fs0 l [] he
theorem FsOk.pre {m : Nat} {fs fs1 : List Fn} (h : FsOk m (fs ++ fs1)) : FsOk m fs := fun fs0 f t he => h fs0 f (t ++ fs1) (by rw [he]; simp)
theorem FsOk.first : ∀ {m : Nat} (n : Nat) (fs : List Fn), fs.length = n → FsOk m fs → 0 ≤ firstL fs ∧ firstL fs ≤ 4294967295 * (n : Int)
  | m, 0, fs, hl, h => by rw [List.length_eq_zero_iff.1 hl]; exact ⟨by simp [firstL], by simp [firstL]⟩
  | m, n + 1, fs, hl, h => by
    rcases List.eq_nil_or_concat fs with rfl | ⟨t, y, rfl⟩
    · simp at hl
    · rw [List.concat_eq_append] at h hl ⊢
      have ih := FsOk.first n t (by simpa using hl) h.pre
      obtain ⟨_, _, _, h4, h5, _⟩ := h.last rfl
      rw [firstL_snoc]
      omega
theorem FsOk.lastB {m : Nat} {fs fs0 : List Fn} {l : Fn} (h : FsOk m fs) (he : fs = fs0 ++ [l]) : l.first = firstL fs0 ∧ 0 ≤ l.count ∧ l.count ≤ 4294967295 ∧ 0 ≤ l.first := by
  have hg := h.last he
  subst he
  have := FsOk.first _ _ rfl h.pre
  obtain ⟨g1, g2, g3, g4, g5, _⟩ := hg
  exact ⟨g1, by omega, g5, by omega⟩
theorem FnG.fnB {m : Nat} {fs : List Fn} {f : Fn} (h : FnG m fs f) (hs : FsOk m fs) (hl : fs.length ≤ 300000000) : FnB f := by
  obtain ⟨h1, h2, h3, h4, h5, h6, h7, _⟩ := h
  have := FsOk.first _ _ rfl hs
  refine ⟨h2, h3, by omega, by omega, h4, h5, h6, ?_⟩
  split at h7 <;> omega
/-- Behind so many bytes of the head. -/
def HeadR (Bf : Nat → UInt8) (L j p : Nat) (bad : Bool) : Prop := (bad = true ∧ run Bf L pAll 0 = .bad p) ∨ (bad = false ∧ run Bf L pAll 0 = run Bf L (pHead (headL.drop j) k1) p)
theorem headR_step {Bf : Nat → UInt8} {L j p p2 : Nat} {bad bad2 : Bool} {v : Int} {b : Nat} (h : HeadR Bf L j p bad) (hb : headL[j]? = some (UInt8.ofNat b)) (hb2 : b < 256) (hN : NumR Bf L 1 b b p bad p2 bad2 v) : HeadR Bf L (j + 1) p2 bad2 := by
  have hd : headL.drop j = UInt8.ofNat b :: headL.drop (j + 1) := by
    obtain ⟨hl, he⟩ := List.getElem?_eq_some_iff.1 hb
    rw [List.drop_eq_getElem_cons hl, he]
  have hn : (UInt8.ofNat b).toNat = b := by rw [UInt8.toNat_ofNat']; omega
  rcases h with ⟨rfl, h⟩ | ⟨rfl, h⟩
  · rcases hN with ⟨_, rfl, rfl⟩ | ⟨h, _⟩ | ⟨h, _⟩
    · exact .inl ⟨rfl, h⟩
    · cases h
    · cases h
  · rw [hd, pHead, hn] at h
    rcases hN with ⟨h, _⟩ | ⟨_, rfl, _, h7⟩ | ⟨_, rfl, rfl, hL7, y, rfl, f1, f2, _, h7⟩
    · cases h
    · exact .inl ⟨rfl, by rw [h, h7]⟩
    · exact .inr ⟨rfl, by rw [h, h7]⟩
/-- Behind the count; behind the main function's number. -/
def CntR (Bf : Nat → UInt8) (L p : Nat) (bad : Bool) (v : Int) : Prop := (bad = true ∧ run Bf L pAll 0 = .bad p) ∨ (bad = false ∧ ∃ n : Nat, v = (n : Int) ∧ 1 ≤ n ∧ n ≤ 4294967295 ∧ run Bf L pAll 0 = run Bf L (k2 n) p)
theorem cntR_of {Bf : Nat → UInt8} {L p p2 : Nat} {bad bad2 : Bool} {v : Int} (h : HeadR Bf L 4 p bad) (hN : NumR Bf L 4 1 4294967295 p bad p2 bad2 v) : CntR Bf L p2 bad2 v := by
  rcases h with ⟨rfl, h⟩ | ⟨rfl, h⟩
  · rcases hN with ⟨_, rfl, rfl⟩ | ⟨h, _⟩ | ⟨h, _⟩
    · exact .inl ⟨rfl, h⟩
    · cases h
    · cases h
  · have h : run Bf L pAll 0 = run Bf L (pNum 4 1 4294967295 k2) p := h
    rcases hN with ⟨h, _⟩ | ⟨_, rfl, _, h7⟩ | ⟨_, rfl, rfl, hL7, y, rfl, f1, f2, _, h7⟩
    · cases h
    · exact .inl ⟨rfl, by rw [h, h7]⟩
    · exact .inr ⟨rfl, y, wrap_i64 ⟨by omega, by omega⟩, f1, f2, by rw [h, h7]⟩
/-- Behind so many functions. -/
def FunsR (Bf : Nat → UInt8) (L : Nat) (nv : Int) (k : Nat) (fs : List Fn) (p : Nat) (bad : Bool) (m : Int) : Prop :=
  (bad = true ∧ run Bf L pAll 0 = .bad p) ∨ (bad = false ∧ ∃ n mm : Nat, nv = (n : Int) ∧ m = (mm : Int) ∧ 1 ≤ n ∧ n ≤ 4294967295 ∧ mm < n ∧ fs.length = k ∧ k ≤ n ∧ 15 * k ≤ p ∧ FsOk mm fs ∧ run Bf L pAll 0 = run Bf L (pFns mm (n - k) fs (k3 mm)) p)
theorem funsR_bad {Bf : Nat → UInt8} {L p : Nat} {nv m : Int} {k : Nat} {fs : List Fn} {v : Int} (h : CntR Bf L p true v) : FunsR Bf L nv k fs p true m := by
  rcases h with ⟨_, h⟩ | ⟨h, _⟩
  · exact .inl ⟨rfl, h⟩
  · cases h
theorem funsR_zero {Bf : Nat → UInt8} {L p p2 : Nat} {bad2 : Bool} {nv m : Int} {n : Nat} (hn : nv = (n : Int)) (h1 : 1 ≤ n) (h2 : n ≤ 4294967295) (h : run Bf L pAll 0 = run Bf L (k2 n) p) (hN : NumR Bf L 4 0 (n - 1) p false p2 bad2 m) : FunsR Bf L nv 0 [] p2 bad2 m := by
  have h : run Bf L pAll 0 = run Bf L (pNum 4 0 (n - 1) fun m => pFns m n [] (k3 m)) p := h
  rcases hN with ⟨h, _⟩ | ⟨_, rfl, _, h7⟩ | ⟨_, rfl, rfl, hL7, y, rfl, f1, f2, _, h7⟩
  · cases h
  · exact .inl ⟨rfl, by rw [h, h7]⟩
  · exact .inr ⟨rfl, n, y, hn, wrap_i64 ⟨by omega, by omega⟩, h1, h2, by omega, rfl, by omega, by omega, FsOk.nil y, by rw [h, h7]; rfl⟩
theorem funsR_step {Bf : Nat → UInt8} {L p p2 : Nat} {bad2 : Bool} {nv m : Int} {n mm k : Nat} {fs fs' : List Fn} (hn : nv = (n : Int)) (hm : m = (mm : Int)) (h1 : 1 ≤ n) (h2 : n ≤ 4294967295) (hmn : mm < n) (hk : fs.length = k) (hkn : k < n) (hp : 15 * k ≤ p) (hs : FsOk mm fs) (h : run Bf L pAll 0 = run Bf L (pFns mm (n - k) fs (k3 mm)) p)
    (hF : (bad2 = true ∧ ∀ K, run Bf L (pFn mm fs K) p = .bad p2) ∨ (bad2 = false ∧ p + 15 ≤ p2 ∧ ∃ f, fs' = fs ++ [f] ∧ FnG mm fs f ∧ ∀ K, run Bf L (pFn mm fs K) p = run Bf L (K f) p2)) : FunsR Bf L nv (k + 1) fs' p2 bad2 m := by
  have e : n - k = (n - (k + 1)) + 1 := by omega
  rw [e, pFns] at h
  rcases hF with ⟨rfl, h7⟩ | ⟨rfl, hp2, f, rfl, hf, h7⟩
  · exact .inl ⟨rfl, by rw [h, h7]⟩
  · exact .inr ⟨rfl, n, mm, hn, hm, h1, h2, hmn, by simp [hk], by omega, by omega, hs.snoc hf, by rw [h, h7]⟩
/-- Behind k functions' bodies. -/
def BodR (Bf : Nat → UInt8) (L : Nat) (fs : List Fn) (k : Nat) (xs : List Ins) (p : Nat) (bad : Bool) (m : Int) : Prop :=
  (bad = true ∧ run Bf L pAll 0 = .bad p) ∨ (bad = false ∧ ∃ mm : Nat, m = (mm : Int) ∧ FsOk mm fs ∧ 1 ≤ fs.length ∧ 15 * fs.length ≤ p ∧ xs.length ≤ p ∧ k ≤ fs.length ∧ run Bf L pAll 0 = run Bf L (pBody fs.length (fs.drop k) xs fun ys => .done ⟨ys, fs, mm⟩) p)
theorem bodR_zero {Bf : Nat → UInt8} {L p : Nat} {bad : Bool} {nv m : Int} {n k : Nat} {fs : List Fn} (h : FunsR Bf L nv k fs p bad m) (hk : nv = (n : Int)) (hkn : bad = false → n ≤ k) : BodR Bf L fs 0 [] p bad m := by
  rcases h with h | ⟨rfl, n', mm, h0, h1, h2, h3, h4, h5, h6, h7, h8, h9⟩
  · exact .inl h
  · have := hkn rfl
    obtain rfl : n = n' := by omega
    have e : n - k = 0 := by omega
    rw [e, pFns] at h9
    exact .inr ⟨rfl, mm, h1, h8, by omega, by omega, by simp, by omega, h9⟩
/-- Within the body of the k-th function, j instructions behind. -/
def InsR (Bf : Nat → UInt8) (L : Nat) (fs : List Fn) (k : Nat) (f : Fn) (j : Nat) (xs : List Ins) (p : Nat) (bad : Bool) (m : Int) : Prop :=
  (bad = true ∧ run Bf L pAll 0 = .bad p) ∨ (bad = false ∧ ∃ (mm cn : Nat), m = (mm : Int) ∧ f.count = (cn : Int) ∧ FsOk mm fs ∧ 1 ≤ fs.length ∧ 15 * fs.length ≤ p ∧ xs.length ≤ p ∧ k < fs.length ∧ j ≤ cn ∧ run Bf L pAll 0 = run Bf L (pIns fs.length f (cn - j) xs fun ys => pBody fs.length (fs.drop (k + 1)) ys fun ys => .done ⟨ys, fs, mm⟩) p)
theorem insR_zero {Bf : Nat → UInt8} {L p : Nat} {bad : Bool} {m : Int} {fs : List Fn} {k : Nat} {xs : List Ins} (h : BodR Bf L fs k xs p bad m) (hk : k < fs.length) : InsR Bf L fs k (fnF fs k) 0 xs p bad m := by
  rcases h with h | ⟨rfl, mm, h1, h2, h3, h4, h5, h6, h7⟩
  · exact .inl h
  · have hd : fs.drop k = fnF fs k :: fs.drop (k + 1) := by
      rw [List.drop_eq_getElem_cons hk]
      congr 1
      unfold fnF
      rw [List.getD_eq_getElem?_getD, List.getElem?_eq_getElem hk]; rfl
    have hsp : fs = fs.take k ++ fnF fs k :: fs.drop (k + 1) := by rw [← hd, List.take_append_drop]
    have hg := h2 _ _ _ hsp
    obtain ⟨cn, hcn⟩ := Int.eq_ofNat_of_zero_le (show 0 ≤ (fnF fs k).count by have := hg.2.2.2.1; omega)
    rw [hd, pBody, hcn, Int.toNat_natCast] at h7
    exact .inr ⟨rfl, mm, cn, h1, hcn, h2, h3, h4, h5, hk, by omega, h7⟩
theorem insR_step {Bf : Nat → UInt8} {L p p2 : Nat} {bad2 : Bool} {m : Int} {fs : List Fn} {k j : Nat} {f : Fn} {xs : List Ins} {x : Ins} {mm cn : Nat} (h1 : m = (mm : Int)) (hcn : f.count = (cn : Int)) (h2 : FsOk mm fs) (h3 : 1 ≤ fs.length) (h4 : 15 * fs.length ≤ p) (h5 : xs.length ≤ p) (hk : k < fs.length) (hj : j < cn) (h : run Bf L pAll 0 = run Bf L (pIns fs.length f (cn - j) xs fun ys => pBody fs.length (fs.drop (k + 1)) ys fun ys => .done ⟨ys, fs, mm⟩) p) {last : Bool} (hl : last = decide (j + 1 = cn)) (hF : FinR Bf L fs.length f last p x p2 bad2) : InsR Bf L fs k f (j + 1) (xs ++ [x]) p2 bad2 m := by
  have e : cn - j = (cn - (j + 1)) + 1 := by omega
  have e2 : ((cn - (j + 1)) == 0) = last := by rw [hl, Bool.eq_iff_iff]; simp; omega
  rw [e, pIns, e2] at h
  rcases hF.2 with ⟨rfl, h7⟩ | ⟨rfl, hp2, h7⟩
  · exact .inl ⟨rfl, by rw [h, h7]⟩
  · exact .inr ⟨rfl, mm, cn, h1, hcn, h2, h3, by omega, by simp; omega, hk, by omega, by rw [h, h7]⟩
theorem insR_done {Bf : Nat → UInt8} {L p : Nat} {bad : Bool} {m : Int} {fs : List Fn} {k j cn : Nat} {f : Fn} {xs : List Ins} (h : InsR Bf L fs k f j xs p bad m) (hcn : f.count = (cn : Int)) (hj : bad = false → cn ≤ j) : BodR Bf L fs (k + 1) xs p bad m := by
  rcases h with h | ⟨rfl, mm, cn', h1, h2, h3, h4, h5, h6, h7, h8, h9⟩
  · exact .inl h
  · have := hj rfl
    obtain rfl : cn = cn' := by omega
    have e : cn - j = 0 := by omega
    rw [e, pIns] at h9
    exact .inr ⟨rfl, mm, h1, h3, h4, h5, h6, by omega, h9⟩
theorem bodR_done {Bf : Nat → UInt8} {L p : Nat} {m : Int} {fs : List Fn} {k : Nat} {xs : List Ins} (h : BodR Bf L fs k xs p false m) (hk : fs.length ≤ k) : ∃ mm : Nat, m = (mm : Int) ∧ run Bf L pAll 0 = run Bf L (.done ⟨xs, fs, mm⟩) p := by
  rcases h with ⟨h, _⟩ | ⟨_, mm, h1, h2, h3, h4, h5, h6, h7⟩
  · cases h
  · rw [List.drop_eq_nil_of_le hk, pBody] at h7
    exact ⟨mm, h1, h7⟩
/-! ## what Read keeps -/
structure RD (w wr : World) (G : Nat → Prop) (A : Option Addr) (L c : Nat) (Bf : Nat → UInt8) (iv fv : Value) (xs : List Ins) (fs : List Fn) (p : Nat) (bad : Bool) (m : Int) : Prop where
  rm : RM wr (w.heap.size + 1) G A L c Bf (w.heap.size + 2) (w.heap.size + 1) iv fv xs fs fs.length (nameIn fs) p bad m
  rc : Blk wr w.heap.size 25 #[.slice none 0 0, .slice none 0 0, .int .i64 0]
  bw : Below w.heap.size w wr
section
variable {w wr w2 : World} {G : Nat → Prop} {A : Option Addr} {L c : Nat} {Bf : Nat → UInt8} {iv fv iv' fv' : Value} {xs xs' : List Ins} {fs fs' : List Fn} {p p' : Nat} {bad bad' : Bool} {m m' : Int}
theorem RD.step (h : RD w wr G A L c Bf iv fv xs fs p bad m) (hb : Below (w.heap.size + 1) wr w2) (hm : RM w2 (w.heap.size + 1) G A L c Bf (w.heap.size + 2) (w.heap.size + 1) iv' fv' xs' fs' fs'.length (nameIn fs') p' bad' m') : RD w w2 G A L c Bf iv' fv' xs' fs' p' bad' m' :=
  ⟨hm, h.rc.below hb (Nat.lt_succ_self _), h.bw.trans (hb.mono (Nat.le_succ _))⟩
theorem RD.turn (h : RD w wr G A L c Bf iv fv xs fs p bad m) (o : Only (fun b => b = w.heap.size + 2) wr w2) (hm : RM w2 (w.heap.size + 1) G A L c Bf (w.heap.size + 2) (w.heap.size + 1) iv fv xs fs fs.length (nameIn fs) p' bad' m') : RD w w2 G A L c Bf iv fv xs fs p' bad' m' := by
  have := h.rm.b.lt
  exact h.step (o.toBelow (by omega) fun k hk e => by omega) hm
theorem RD.quiet (h : RD w wr G A L c Bf iv fv xs fs p bad m) (o : Only (fun _ => False) wr w2) : RD w w2 G A L c Bf iv fv xs fs p bad m := by
  have := h.rm.b.lt
  exact h.step (o.toBelow (by omega) fun k hk e => e) (h.rm.quiet o)
theorem RD.start (hB : BL w G A L Bf) : RD w (((w.alloc (.cells #[.slice none 0 0, .slice none 0 0, .int .i64 0] 25)).alloc (.map #[] 0)).alloc (.cells #[.slice A L c, .int .i64 0, .bool false, .slice none 0 0, .slice none 0 0, .int .i64 0, .map (some (w.heap.size + 1))] 67)) G A L c Bf (.slice none 0 0) (.slice none 0 0) [] [] 0 false 0 := by
  have z : (w.alloc (.cells #[.slice none 0 0, .slice none 0 0, .int .i64 0] 25)).heap.size = w.heap.size + 1 := by simp
  have z2 : ((w.alloc (.cells #[.slice none 0 0, .slice none 0 0, .int .i64 0] 25)).alloc (.map #[] 0)).heap.size = w.heap.size + 2 := by simp
  have mm := SMap.made Try.prog 9 3 (w.alloc (.cells #[.slice none 0 0, .slice none 0 0, .int .i64 0] 25))
  rw [z] at mm
  have bb := Blk.new ((w.alloc (.cells #[.slice none 0 0, .slice none 0 0, .int .i64 0] 25)).alloc (.map #[] 0)) 67 #[.slice A L c, .int .i64 0, .bool false, .slice none 0 0, .slice none 0 0, .int .i64 0, .map (some (w.heap.size + 1))]
  rw [z2] at bb
  refine ⟨⟨bb, hB.only (F := fun _ => False) ((((Only.refl _ w).alloc _).alloc _).alloc _) (fun _ _ _ h => h), World.ownsRow_nil _ _ _ _, World.ownsRow_nil _ _ _ _, (mm.alloc _).congr fun l => rfl, by omega, by omega⟩, ((Blk.new w 25 _).alloc _).alloc _, ba (ba (ba (Below.refl _ _) _) _) _⟩
end
theorem results_cell3 {P : Program} {fn : Func} {t t2 t3 : Tmp} {ty : TypeId} (h : fn.results = #[.cell t ty, .tmp t2, .tmp t3]) {tmps : Array Value} {a : Addr} (ht : tmps[t]?.getD undef = .pointer (some a)) {w : World} {v v2 v3 : Value} (h2 : tmps[t2]?.getD undef = v2) (h3 : tmps[t3]?.getD undef = v3) (hv : (loadVar ty a).run P w = .ok v w) : (results fn tmps).run P w = .ok (.tuple #[v, v2, v3]) w := by
  simp [results, h, ht, asAddr, hv, h2, h3]
end Go.Proofs.Ytafhjpehkfcmjaa
