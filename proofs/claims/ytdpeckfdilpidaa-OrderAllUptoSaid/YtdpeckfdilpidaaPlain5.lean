/- What can be reached, a search in breadth, and what the walk in depth has to do with it. No program here. -/
import Derived.Test.YtdpeckfdilpidaaPlain2
set_option linter.unusedVariables false
set_option linter.unusedSimpArgs false
namespace Go.Proofs.Ytdpeckfdilpidaa
def way (X : Nat → List Int) (a i : Nat) : Nat := ((X a).getD i 0).toNat
inductive To (X : Nat → List Int) (a : Nat) : Nat → Prop
  | refl : To X a a
  | tail {b : Nat} (i : Nat) : To X a b → i < (X b).length → To X a (way X b i)
theorem To.trans {X : Nat → List Int} {a b c : Nat} (h : To X a b) (k : To X b c) : To X a c := by
  induction k with
  | refl => exact h
  | tail i _ hi ih => exact .tail i ih hi
theorem way_lt {n : Nat} {X : Nat → List Int} (hX : Right n X) {a i : Nat} (ha : a < n) (hi : i < (X a).length) : way X a i < n := by
  have := hX a ha i hi
  unfold way; omega
theorem To.lt {n : Nat} {X : Nat → List Int} (hX : Right n X) {a b : Nat} (ha : a < n) (h : To X a b) : b < n := by
  induction h with
  | refl => exact ha
  | tail i _ hi ih => exact way_lt hX ih hi
/-! ### In breadth -/
structure BF (n : Nat) (X : Nat → List Int) (from_ : Nat) (f : Nat → Bool) (l : List Nat) (i j : Nat) : Prop where
  mem : ∀ k, f k = true ↔ k ∈ l
  nd : l.Nodup
  lt : ∀ k, k ∈ l → k < n ∧ To X from_ k
  fr : from_ ∈ l
  cl : ∀ p, p < i → ∀ t, t < (X (l.getD p 0)).length → f (way X (l.getD p 0) t) = true
  cj : ∀ t, t < j → t < (X (l.getD i 0)).length → f (way X (l.getD i 0) t) = true
  il : i ≤ l.length
section
variable {n : Nat} {X : Nat → List Int} {fr : Nat} {f : Nat → Bool} {l : List Nat} {i j : Nat}
theorem BF.start (hf : fr < n) : BF n X fr (fun k => if k = fr then true else false) [fr] 0 0 :=
  ⟨fun k => by simp, by simp, fun k hk => by simp at hk; subst hk; exact ⟨hf, .refl⟩, by simp, fun p hp => absurd hp (Nat.not_lt_zero _), fun t ht => absurd ht (Nat.not_lt_zero _), by simp⟩
theorem BF.size (h : BF n X fr f l i j) : l.length ≤ n := nodup_bound h.nd fun b hb => (h.lt b hb).1
theorem getD_app {l : List Nat} {b p : Nat} (hp : p < l.length) : (l ++ [b]).getD p 0 = l.getD p 0 := by
  simp [List.getD_eq_getElem?_getD, List.getElem?_append_left hp]
theorem getD_mem {l : List Nat} {p : Nat} (hp : p < l.length) : l.getD p 0 ∈ l := by
  simp [List.getD_eq_getElem?_getD, hp]
theorem BF.skip (h : BF n X fr f l i j) (hj : j < (X (l.getD i 0)).length) (hf : f (way X (l.getD i 0) j) = true) : BF n X fr f l i (j + 1) :=
  ⟨h.mem, h.nd, h.lt, h.fr, h.cl, fun t ht htl => by
    by_cases he : t = j
    · rw [he]; exact hf
    · exact h.cj t (by omega) htl, h.il⟩
theorem BF.add (hX : Right n X) (h : BF n X fr f l i j) (hi : i < l.length) (hj : j < (X (l.getD i 0)).length) {b : Nat} (hb : b = way X (l.getD i 0) j) (hf : f b = false) :
    BF n X fr (fun k => if k = b then true else f k) (l ++ [b]) i (j + 1) := by
  have h0 := h.lt _ (getD_mem hi)
  refine ⟨fun k => ?_, ?_, fun k hk => ?_, List.mem_append.2 (.inl h.fr), fun p hp t ht => ?_, fun t ht htl => ?_, by rw [List.length_append]; exact Nat.le_trans h.il (Nat.le_add_right _ _)⟩
  · show (if k = b then true else f k) = true ↔ _
    by_cases hk : k = b
    · subst hk; simp
    · rw [if_neg hk, h.mem k]; simp [hk]
  · rw [List.nodup_append]
    refine ⟨h.nd, by simp, fun a ha c hc => ?_⟩
    rw [List.mem_singleton] at hc
    subst hc
    rintro rfl
    rw [(h.mem a).2 ha] at hf
    cases hf
  · rcases List.mem_append.1 hk with hk | hk
    · exact h.lt k hk
    · rw [List.mem_singleton] at hk
      subst hk
      rw [hb]
      exact ⟨way_lt hX h0.1 hj, .tail j h0.2 hj⟩
  · rw [getD_app (by have := h.il; omega)] at ht ⊢
    show (if _ = b then true else f _) = true
    split
    · rfl
    · exact h.cl p hp t ht
  · rw [getD_app hi] at htl ⊢
    show (if _ = b then true else f _) = true
    split
    · rfl
    · rename_i hne
      by_cases he : t = j
      · subst he; exact absurd hb.symm hne
      · exact h.cj t (by omega) htl
theorem BF.next (h : BF n X fr f l i j) (hi : i < l.length) (hj : (X (l.getD i 0)).length ≤ j) : BF n X fr f l (i + 1) 0 :=
  ⟨h.mem, h.nd, h.lt, h.fr, fun p hp t ht => by
    by_cases he : p = i
    · subst he; exact h.cj t (by omega) ht
    · exact h.cl p (by omega) t ht, fun t ht => absurd ht (Nat.not_lt_zero _), by omega⟩
theorem BF.end_ (h : BF n X fr f l i j) (hi : l.length ≤ i) (k : Nat) : f k = true ↔ To X fr k := by
  constructor
  · intro hk
    exact (h.lt k ((h.mem k).1 hk)).2
  · intro hk
    induction hk with
    | refl => exact (h.mem _).2 h.fr
    | tail t h1 ht ih =>
      obtain ⟨p, hp, e⟩ := List.getElem_of_mem ((h.mem _).1 ih)
      have e' := (show l.getD p 0 = l[p] by rw [List.getD_eq_getElem?_getD, List.getElem?_eq_getElem hp]; rfl)
      rw [e] at e'
      rw [← e'] at ht ⊢
      exact h.cl p (by omega) t ht
end
/-! ### In depth -/
/-- Each open block leads to the next one. -/
def Links (X : Nat → List Int) : List (Nat × Nat) → Prop
  | [] => True
  | [_] => True
  | p :: q :: r => (∃ i, i < (X p.1).length ∧ q.1 = way X p.1 i) ∧ Links X (q :: r)
theorem links_snoc {X : Nat → List Int} : ∀ (op : List (Nat × Nat)) (p q : Nat × Nat), Links X (op ++ [p]) → (∃ i, i < (X p.1).length ∧ q.1 = way X p.1 i) → Links X (op ++ [p] ++ [q])
  | [], p, q, _, h => ⟨h, trivial⟩
  | [a], p, q, h1, h => ⟨h1.1, h, trivial⟩
  | a :: b :: r, p, q, h1, h => ⟨h1.1, links_snoc (b :: r) p q h1.2 h⟩
theorem links_init {X : Nat → List Int} : ∀ (op : List (Nat × Nat)) (p : Nat × Nat), Links X (op ++ [p]) → Links X op
  | [], p, _ => trivial
  | [a], p, _ => trivial
  | a :: b :: r, p, h => ⟨h.1, links_init (b :: r) p h.2⟩
theorem links_left {X : Nat → List Int} : ∀ (op : List (Nat × Nat)) (b l l' : Nat), Links X (op ++ [(b, l)]) → Links X (op ++ [(b, l')])
  | [], b, l, l', _ => trivial
  | [a], b, l, l', h => ⟨h.1, trivial⟩
  | a :: c :: r, b, l, l', h => ⟨h.1, links_left (c :: r) b l l' h.2⟩
theorem links_to {X : Nat → List Int} : ∀ (op : List (Nat × Nat)) (p : Nat × Nat), Links X (op ++ [p]) → ∀ q, q ∈ op → To X q.1 p.1
  | [], p, _, q, hq => by cases hq
  | [a], p, h, q, hq => by
    rw [List.mem_singleton] at hq
    subst hq
    obtain ⟨⟨i, hi, e⟩, _⟩ := h
    rw [e]
    exact .tail i .refl hi
  | a :: b :: r, p, h, q, hq => by
    have ih := links_to (b :: r) p h.2
    rcases List.mem_cons.1 hq with rfl | hq
    · obtain ⟨⟨i, hi, e⟩, _⟩ := h
      have := ih b (by simp)
      exact To.trans (by rw [e]; exact .tail i .refl hi) this
    · exact ih q hq
/-- What holds of each state of the walk. -/
structure DI (X : Nat → List Int) (s : DS) : Prop where
  links : Links X s.op
  toTop : ∀ p, p ∈ s.op → To X 0 p.1
  toDone : ∀ b, b ∈ s.done → To X 0 b
  gone : ∀ p, p ∈ s.op → ∀ i, p.2 ≤ i → i < (X p.1).length → s.seen (way X p.1 i) = true
  shut : ∀ d b r, s.done = d ++ b :: r → ∀ i, i < (X b).length → s.seen (way X b i) = true ∧ (way X b i ∈ d ∨ To X (way X b i) b)
  bot : (∃ l r, s.op = (0, l) :: r) ∨ (s.op = [] ∧ ∃ d, s.done = d ++ [0])
theorem DI.start (X : Nat → List Int) : DI X (DS.start X) := by
  rw [DS.start, DS.visit_yes rfl]
  refine ⟨trivial, fun p hp => ?_, fun b hb => (by cases hb), fun p hp i h1 h2 => ?_, fun d b r h => ?_, .inl ⟨_, [], rfl⟩⟩
  · simp at hp; subst hp; exact .refl
  · simp at hp; subst hp; simp at h1 h2; omega
  · simp at h
theorem DI.step {n : Nat} {X : Nat → List Int} (hX : Right n X) {s t : DS} (hs : Step X s t) (hi : Inv n X s) (h : DI X s) : DI X t := by
  cases hs with
  | pop seen op b done =>
    have hseen : ∀ i, i < (X b).length → seen (way X b i) = true := fun i hl => h.gone (b, 0) (by simp) i (Nat.zero_le _) hl
    refine ⟨links_init _ _ h.links, fun p hp => h.toTop p (by simp [hp]), fun c hc => ?_, fun p hp => h.gone p (by simp [hp]), fun d c r he i hl => ?_, ?_⟩
    · rcases List.mem_append.1 hc with hc | hc
      · exact h.toDone c hc
      · rw [List.mem_singleton] at hc; subst hc; exact h.toTop (c, 0) (by simp)
    · have he' : done ++ [b] = d ++ c :: r := he
      rcases List.eq_nil_or_concat r with rfl | ⟨r', x, rfl⟩
      · obtain ⟨rfl, rfl⟩ := snoc_inj he'
        refine ⟨hseen i hl, ?_⟩
        rcases (hi.seen _).1 (show (DS.mk seen (op ++ [(b, 0)]) done).seen (way X b i) = true from hseen i hl) with hm | hm
        · right
          rw [List.map_append, List.mem_append] at hm
          rcases hm with hm | hm
          · obtain ⟨p, hp, e⟩ := List.mem_map.1 hm
            rw [← e]
            exact links_to op (b, 0) h.links p hp
          · simp at hm; rw [hm]; exact .refl
        · exact .inl hm
      · rw [List.concat_eq_append] at he'
        have he2 : done ++ [b] = (d ++ c :: r') ++ [x] := by rw [he']; simp
        obtain ⟨rfl, rfl⟩ := snoc_inj he2
        exact h.shut d c r' rfl i hl
    · rcases h.bot with ⟨l, r, e⟩ | ⟨e, _⟩
      · have e' : op ++ [(b, 0)] = (0, l) :: r := e
        cases op with
        | nil =>
          simp at e'
          right
          exact ⟨rfl, done, by show done ++ [b] = _; rw [e'.1.1]⟩
        | cons a op => left; simp at e'; exact ⟨l, op, by rw [e'.1]⟩
      · simp at e
  | way seen op b l done =>
    have hb := hi.op (b, l + 1) (by simp)
    have hbl : l < (X b).length := by have := hb.2; simp only at this; omega
    have hto := h.toTop (b, l + 1) (by simp)
    have h1 : DI X ⟨seen, op ++ [(b, l)], done⟩ ∨ seen (way X b l) = false := by
      cases hsn : seen (way X b l) with
      | false => right; rfl
      | true =>
        left
        refine ⟨links_left _ _ _ _ h.links, fun p hp => ?_, h.toDone, fun p hp i h1 h2 => ?_, h.shut, ?_⟩
        · rcases List.mem_append.1 hp with hp | hp
          · exact h.toTop p (by simp [hp])
          · rw [List.mem_singleton] at hp; subst hp; exact hto
        · rcases List.mem_append.1 hp with hp | hp
          · exact h.gone p (by simp [hp]) i h1 h2
          · rw [List.mem_singleton] at hp
            subst hp
            by_cases he : i = l
            · subst he; exact hsn
            · exact h.gone (b, l + 1) (by simp) i (by simp only at h1 ⊢; omega) h2
        · rcases h.bot with ⟨k, r, e⟩ | ⟨e, _⟩
          · left
            cases op with
            | nil => simp at e; exact ⟨l, [], by simp [e.1.1]⟩
            | cons a op => simp at e; exact ⟨k, op ++ [(b, l)], by simp [e.1]⟩
          · simp at e
    show DI X (DS.visit X ⟨seen, op ++ [(b, l)], done⟩ (way X b l))
    cases hsn : seen (way X b l) with
    | true =>
      rw [DS.visit_no hsn]
      rcases h1 with h1 | h1
      · exact h1
      · rw [hsn] at h1; cases h1
    | false =>
      rw [DS.visit_yes hsn]
      have up : ∀ k, seen k = true → (if k = way X b l then true else seen k) = true := fun k hk => by
        split
        · rfl
        · exact hk
      refine ⟨?_, fun p hp => ?_, h.toDone, fun p hp i g1 g2 => ?_, fun d c r he i hl => ?_, ?_⟩
      · exact links_snoc op (b, l) _ (links_left _ _ _ _ h.links) ⟨l, hbl, rfl⟩
      · rcases List.mem_append.1 hp with hp | hp
        · rcases List.mem_append.1 hp with hp | hp
          · exact h.toTop p (by simp [hp])
          · rw [List.mem_singleton] at hp; subst hp; exact hto
        · rw [List.mem_singleton] at hp; subst hp; exact .tail l hto hbl
      · show (if way X p.1 i = way X b l then true else seen (way X p.1 i)) = true
        rcases List.mem_append.1 hp with hp | hp
        · rcases List.mem_append.1 hp with hp | hp
          · exact up _ (h.gone p (by simp [hp]) i g1 g2)
          · rw [List.mem_singleton] at hp
            subst hp
            by_cases he : i = l
            · subst he; rw [if_pos rfl]
            · exact up _ (h.gone (b, l + 1) (by simp) i (by simp only at g1 ⊢; omega) g2)
        · rw [List.mem_singleton] at hp
          subst hp
          simp only at g1 g2
          omega
      · have := h.shut d c r he i hl
        exact ⟨up _ this.1, this.2⟩
      · rcases h.bot with ⟨k, r, e⟩ | ⟨e, _⟩
        · left
          cases op with
          | nil => simp at e; exact ⟨l, [(way X b l, (X (way X b l)).length)], by simp [e.1.1]⟩
          | cons a op => simp at e; exact ⟨k, op ++ [(b, l)] ++ [(way X b l, (X (way X b l)).length)], by simp [e.1]⟩
        · simp at e
theorem Reach.di {n : Nat} {X : Nat → List Int} (hn : 0 < n) (hX : Right n X) {s : DS} (h : Reach X s) : DI X s := by
  induction h with
  | start => exact DI.start X
  | step h1 hs ih => exact ih.step hX hs (h1.inv hn hX)
/-- A line: what stands in it. -/
structure LineIs (n : Nat) (X : Nat → List Int) (row : List Nat) : Prop where
  first : ∃ r, row = 0 :: r
  nd : row.Nodup
  mem : ∀ b, b ∈ row ↔ To X 0 b
  back : ∀ u b v, row = u ++ b :: v → ∀ i, i < (X b).length → way X b i ∈ v ∨ To X (way X b i) b
theorem Reach.line {n : Nat} {X : Nat → List Int} (hn : 0 < n) (hX : Right n X) {s : DS} (h : Reach X s) (ho : s.op = []) : LineIs n X s.done.reverse := by
  have hi := h.inv hn hX
  have hd := h.di hn hX
  have hseen : ∀ b, s.seen b = true ↔ b ∈ s.done := fun b => by rw [hi.seen b, ho]; simp
  refine ⟨?_, ?_, fun b => ?_, fun u b v e i hl => ?_⟩
  · rcases hd.bot with ⟨l, r, e⟩ | ⟨_, d, e⟩
    · rw [ho] at e; cases e
    · exact ⟨d.reverse, by rw [e]; simp⟩
  · have := hi.nd
    rw [ho] at this
    exact (List.reverse_perm s.done).nodup_iff.2 (by simpa using this)
  · rw [List.mem_reverse]
    constructor
    · exact hd.toDone b
    · intro hb
      induction hb with
      | refl =>
        rcases hd.bot with ⟨l, r, e⟩ | ⟨_, d, e⟩
        · rw [ho] at e; cases e
        · rw [e]; simp
      | tail i _ hl ih =>
        obtain ⟨d, r, e⟩ := List.append_of_mem ih
        exact (hseen _).1 (hd.shut d _ r e i hl).1
  · have e' : s.done = v.reverse ++ b :: u.reverse := by
      have := congrArg List.reverse e
      simpa using this
    rcases (hd.shut _ _ _ e' i hl).2 with h1 | h1
    · exact .inl (List.mem_reverse.1 h1)
    · exact .inr h1
end Go.Proofs.Ytdpeckfdilpidaa
