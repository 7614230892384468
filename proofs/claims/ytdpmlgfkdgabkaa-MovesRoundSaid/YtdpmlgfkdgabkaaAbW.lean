/- Contracts of the program's functions over an abstract state, and what they rest on: part AbW. No condition. -/
import Derived.Test.YtdpmlgfkdgabkaaAbV
set_option linter.unusedVariables false
set_option linter.unusedSimpArgs false

/- How many instructions there are, plainly. -/
namespace Go.Ab
open Go.Proofs

/-- The least place of a closed way, of two places or more. -/
def MinC (l : List Move) (x : Int) : Prop := ∃ n, 1 ≤ n ∧ (∀ k ≤ n, 1 ≤ k → x < itS l x k) ∧ (∀ k ≤ n, (itS l x k, itS l x (k + 1)) ∈ l) ∧ itS l x (n + 1) = x

theorem long_min {l : List Move} (hn : (l.map (·.1)).Nodup) (x : Int) : long (aroundR l x) = true ↔ MinC l x := by
  constructor
  · intro h
    have h1 : 1 < (aroundR l x).length := by unfold long at h; simpa using h
    obtain ⟨n, e, hgt, hm, hend⟩ := around_told hn (x := x) (fun h => by rw [h] at h1; simp at h1)
    rw [e] at h1
    exact ⟨n, by simp [circL] at h1; omega, hgt, hm, hend⟩
  · rintro ⟨n, hn1, hgt, hm, hend⟩
    have hnl : n ≤ l.length := by
      have hback : ∀ i d, itS l x i = itS l x (i + (d + 1)) → i + (d + 1) ≤ n → False := fun i d e h => by
        have key : ∀ t, itS l x (i + t) = itS l x (i + (d + 1) + t) := fun t => by
          induction t with
          | zero => exact e
          | succ t ih => rw [← Nat.add_assoc, ← Nat.add_assoc, itS, ih]; rfl
        have h1 := key (n + 1 - (i + (d + 1)))
        rw [show i + (d + 1) + (n + 1 - (i + (d + 1))) = n + 1 by omega, hend] at h1
        have := hgt (i + (n + 1 - (i + (d + 1)))) (by omega) (by omega)
        omega
      have hnd : ((List.range (n + 1)).map (itS l x)).Nodup := by
        rw [List.Nodup, List.pairwise_map, List.pairwise_iff_getElem]
        intro i j hi hj hij
        simp only [List.getElem_range]
        simp at hi hj
        intro e
        obtain ⟨d, rfl⟩ : ∃ d, j = i + (d + 1) := ⟨j - i - 1, by omega⟩
        exact hback i d e (by omega)
      have := nodup_len hnd (b := l.map (·.1)) (fun y hy => by
        obtain ⟨i, hi, e⟩ := List.mem_map.1 hy
        rw [← e]; exact List.mem_map.2 ⟨_, hm i (by have := List.mem_range.1 hi; omega), rfl⟩)
      simp at this
      omega
    rw [around_eq hn hgt hm hend hnl]
    unfold long; simp [circL]; omega

/-- The ways of a part are the ways of the whole. -/
theorem its_same {l l' : List Move} (hn : (l.map (·.1)).Nodup) (hn' : (l'.map (·.1)).Nodup) (hs : ∀ m ∈ l', m ∈ l) {x : Int} : ∀ k, (∀ i < k, (itS l x i, itS l x (i + 1)) ∈ l') → itS l' x k = itS l x k
  | 0, _ => rfl
  | k + 1, h => by
    have e := its_same hn hn' hs k (fun i hi => h i (by omega))
    rw [itS, e]
    exact source_of hn' (h k (Nat.lt_succ_self _))

theorem its_same' {l l' : List Move} (hn : (l.map (·.1)).Nodup) (hs : ∀ m ∈ l', m ∈ l) {x : Int} : ∀ k, (∀ i < k, (itS l' x i, itS l' x (i + 1)) ∈ l') → itS l' x k = itS l x k
  | 0, _ => rfl
  | k + 1, h => by
    have e := its_same' hn hs k (fun i hi => h i (by omega))
    have h1 := h k (Nat.lt_succ_self _)
    have h2 := source_of hn (hs _ h1)
    rw [show itS l x (k + 1) = sourceR l (itS l x k) from rfl, ← e]
    exact h2.symm

theorem MinC.up {l l' : List Move} (hn : (l.map (·.1)).Nodup) (hs : ∀ m ∈ l', m ∈ l) {x : Int} (h : MinC l' x) : MinC l x := by
  obtain ⟨n, h1, hgt, hm, hend⟩ := h
  have e : ∀ k ≤ n + 1, itS l' x k = itS l x k := fun k hk => its_same' hn hs k (fun i hi => hm i (by omega))
  refine ⟨n, h1, fun k hk h => ?_, fun k hk => ?_, ?_⟩
  · rw [← e k (by omega)]; exact hgt k hk h
  · rw [← e k (by omega), ← e (k + 1) (by omega)]; exact hs _ (hm k hk)
  · rw [← e (n + 1) (Nat.le_refl _)]; exact hend

theorem MinC.down {l l' : List Move} (hn : (l.map (·.1)).Nodup) (hn' : (l'.map (·.1)).Nodup) (hs : ∀ m ∈ l', m ∈ l) {x : Int} (h : MinC l x) (hin : ∀ k, (itS l x k, itS l x (k + 1)) ∈ l → (∃ n, k ≤ n ∧ itS l x (n + 1) = x ∧ ∀ i ≤ n, (itS l x i, itS l x (i + 1)) ∈ l) → (itS l x k, itS l x (k + 1)) ∈ l') : MinC l' x := by
  obtain ⟨n, h1, hgt, hm, hend⟩ := h
  have hm' : ∀ k ≤ n, (itS l x k, itS l x (k + 1)) ∈ l' := fun k hk => hin k (hm k hk) ⟨n, hk, hend, hm⟩
  have e : ∀ k ≤ n + 1, itS l' x k = itS l x k := fun k hk => its_same hn hn' hs k (fun i hi => hm' i (by omega))
  refine ⟨n, h1, fun k hk h => ?_, fun k hk => ?_, ?_⟩
  · rw [e k (by omega)]; exact hgt k hk h
  · rw [e k (by omega), e (k + 1) (by omega)]; exact hm' k hk
  · rw [e (n + 1) (Nat.le_refl _)]; exact hend

theorem MinC.mem {l : List Move} {x : Int} (h : MinC l x) : ∃ q ∈ l, q.1 = x := by
  obtain ⟨n, h1, hgt, hm, hend⟩ := h
  exact ⟨_, hm 0 (Nat.zero_le _), rfl⟩

open Classical in
/-- How many closed ways there are. -/
noncomputable def nC (l : List Move) : Nat := (l.filter fun q => decide (MinC l q.1)).length

open Classical in
theorem nC_circ {l : List Move} (hn : (l.map (·.1)).Nodup) : (circR l).length = nC l := by
  rw [circR, List.filter_map, List.length_map, nC]
  congr 1
  refine List.filter_congr fun q _ => ?_
  show long (aroundR l q.1) = decide (MinC l q.1)
  rw [Bool.eq_iff_iff, long_min hn, decide_eq_true_iff]

open Classical in
theorem nC_real {l : List Move} (hn : (l.map (·.1)).Nodup) : nC (realM l) = nC l := by
  have hsub : (realM l).Sublist l := List.filter_sublist
  have hn' := (hsub.map (·.1)).nodup hn
  have iff : ∀ x, MinC (realM l) x ↔ MinC l x := fun x => by
    constructor
    · exact MinC.up hn (fun m hm => hsub.subset hm)
    · rintro ⟨n, h1, hgt, hm, hend⟩
      refine MinC.down hn hn' (fun m hm => hsub.subset hm) ⟨n, h1, hgt, hm, hend⟩ (fun k hk ⟨n2, hk2, hend2, hm2⟩ => List.mem_filter.2 ⟨hk, ?_⟩)
      have : itS l x k ≠ itS l x (k + 1) := fun h => by
        have stay : ∀ d, itS l x (k + d) = itS l x k := fun d => by
          induction d with
          | zero => rfl
          | succ d ih => rw [← Nat.add_assoc, itS, ih]; exact h.symm
        -- the way comes back to x: so it stays there; but it leaves x at once
        have e1 : itS l x k = x := by
          have := stay (n2 + 1 - k)
          rw [show k + (n2 + 1 - k) = n2 + 1 by omega, hend2] at this
          exact this.symm
        have hx1 := hgt 1 h1 (Nat.le_refl _)
        have e2 : itS l x (k + 1) = itS l x 1 := by rw [itS, e1]; rfl
        rw [← e2, ← h, e1] at hx1
        omega
      simpa using this
  rw [nC, nC, realM, List.filter_filter]
  congr 1
  refine List.filter_congr fun q hq => ?_
  rw [Bool.eq_iff_iff, Bool.and_eq_true, decide_eq_true_iff, decide_eq_true_iff]
  constructor
  · rintro ⟨h, _⟩; exact (iff _).1 h
  · intro h
    have h' := (iff q.1).2 h
    obtain ⟨p, hp, e⟩ := h'.mem
    have := uniq hn (hsub.subset hp) hq e
    subst this
    exact ⟨h', (List.mem_filter.1 hp).2⟩

open Classical in
theorem nC_free {l : List Move} (hn : (l.map (·.1)).Nodup) {q : Move} (_hq : q ∈ l) (hf : ∀ m ∈ l, m.2 ≠ q.1) : nC (l.filter fun m => m.1 != q.1) = nC l := by
  have hsub : (l.filter fun m => m.1 != q.1).Sublist l := List.filter_sublist
  have hn' := (hsub.map (·.1)).nodup hn
  have off : ∀ x k n, k ≤ n → itS l x (n + 1) = x → (∀ i ≤ n, (itS l x i, itS l x (i + 1)) ∈ l) → itS l x k ≠ q.1 := fun x k n hk he hm => by
    cases k with
    | zero => show x ≠ q.1; rw [← he]; exact hf _ (hm n (Nat.le_refl _))
    | succ k => exact hf _ (hm k (by omega))
  have iff : ∀ x, MinC (l.filter fun m => m.1 != q.1) x ↔ MinC l x := fun x =>
    ⟨MinC.up hn (fun m hm => hsub.subset hm), fun h => MinC.down hn hn' (fun m hm => hsub.subset hm) h (fun k hk ⟨n, hkn, he, hm⟩ => List.mem_filter.2 ⟨hk, by have := off x k n hkn he hm; simpa using this⟩)⟩
  rw [nC, nC, List.filter_filter]
  congr 1
  refine List.filter_congr fun p hp => ?_
  rw [Bool.eq_iff_iff, Bool.and_eq_true, decide_eq_true_iff, decide_eq_true_iff]
  constructor
  · rintro ⟨h, _⟩; exact (iff _).1 h
  · intro h
    refine ⟨(iff _).2 h, ?_⟩
    obtain ⟨n, h1, hgt, hm, hend⟩ := h
    have := off p.1 0 n (Nat.zero_le _) hend hm
    simpa [itS] using this

theorem its_its (l : List Move) (x : Int) (j : Nat) : ∀ k, itS l (itS l x j) k = itS l x (j + k)
  | 0 => rfl
  | k + 1 => by rw [itS, its_its l x j k, ← Nat.add_assoc]; rfl

theorem MinC.le {l : List Move} {x : Int} (h : MinC l x) (k : Nat) : x ≤ itS l x k := by
  obtain ⟨n, h1, hgt, hm, hend⟩ := h
  rw [its_mod hend (by omega)]
  have hk := Nat.mod_lt k (Nat.succ_pos n)
  cases hr : k % (n + 1) with
  | zero => exact Int.le_refl _
  | succ r => exact Int.le_of_lt (hgt (r + 1) (by have : k % (n + 1) < n + 1 := hk; omega) (by omega))

/-- What is known where all that is left goes round. -/
structure Turn (l : List Move) (n : Nat) (f : Nat → Int) : Prop where
  f0 : f 0 = minTo l
  it : ∀ i, f i = itS l (minTo l) i
  endd : f (n + 1) = f 0
  mem : ∀ i, (f i, f (i + 1)) ∈ l
  circ : circleR l (minTo l) = circL f n
  dist : ∀ i j, i < j → j ≤ n → f i ≠ f j

theorem turn_of {l : List Move} (hn : (l.map (·.1)).Nodup) (hpos : ∀ q ∈ l, 0 ≤ q.1) (hne : l ≠ []) (h : ¬ 0 ≤ freeR l) : ∃ n f, Turn l n f := by
  have hff := (free_fold l l (-1) hpos).1 (by decide)
  have hall : ∀ q ∈ l, ∃ k ∈ l, k.2 = q.1 := by
    rcases hff with ⟨_, h⟩ | ⟨q, hq, h', _⟩
    · intro q hq
      obtain ⟨k, hk, e⟩ := List.any_eq_true.1 (h q hq)
      exact ⟨k, hk, beq_iff_eq.1 e⟩
    · have := hpos q hq
      exact absurd (show 0 ≤ freeR l by unfold freeR; omega) h
  obtain ⟨hn2, hback, n, hn', hlt', hend, hmem, hcirc, hdist⟩ := circle_facts hn hpos hall (minTo_mem hne)
  exact ⟨n, itS l (minTo l), rfl, fun _ => rfl, hend, fun i => by obtain ⟨q, hq, e1, e2⟩ := hmem i; rw [← e1, ← e2]; exact hq, hcirc, hdist⟩

section
variable {l : List Move} {n : Nat} {f : Nat → Int}

theorem Turn.inc (t : Turn l n f) (m : Int) : m ∈ circleR l (minTo l) ↔ ∃ i ≤ n, m = f i := by
  rw [t.circ, circL, List.mem_map]
  constructor
  · rintro ⟨i, hi, rfl⟩; exact ⟨i, by have := List.mem_range.1 hi; omega, rfl⟩
  · rintro ⟨i, hi, rfl⟩; exact ⟨i, List.mem_range.2 (by omega), rfl⟩

theorem Turn.closed (t : Turn l n f) (hn : (l.map (·.1)).Nodup) : ∀ m ∈ l, m.1 ∈ circleR l (minTo l) → m.2 ∈ circleR l (minTo l) := fun m hm h => by
  obtain ⟨i, hi, e⟩ := (t.inc _).1 h
  have := uniq hn hm (t.mem i) e
  subst this
  refine (t.inc _).2 ?_
  by_cases hin : i = n
  · exact ⟨0, Nat.zero_le _, by rw [hin]; exact t.endd⟩
  · exact ⟨i + 1, by omega, rfl⟩

theorem Turn.nodup (t : Turn l n f) : (circleR l (minTo l)).Nodup := by
  rw [t.circ, circL, List.Nodup, List.pairwise_map, List.pairwise_iff_getElem]
  intro i j hi hj hij
  simp only [List.getElem_range]
  simp at hi hj
  exact t.dist i j hij (by omega)

theorem Turn.len (t : Turn l n f) (hn : (l.map (·.1)).Nodup) : l.length = (dropAll l (circleR l (minTo l))).length + (n + 1) := by
  have hsub := dropAll_sublist (circleR l (minTo l)) l
  have hp : (l.map (·.1)).Perm ((dropAll l (circleR l (minTo l))).map (·.1) ++ circleR l (minTo l)) := by
    refine (List.perm_ext_iff_of_nodup hn ?_).2 fun a => ?_
    · rw [List.nodup_append]
      refine ⟨(hsub.map _).nodup hn, t.nodup, fun a ha b hb e => ?_⟩
      obtain ⟨m, hm, rfl⟩ := List.mem_map.1 ha
      have := ((dropAll_mem _ _ _).1 hm).2
      exact this (by rw [e]; exact hb)
    · rw [List.mem_append, List.mem_map, List.mem_map]
      constructor
      · rintro ⟨m, hm, rfl⟩
        by_cases c : m.1 ∈ circleR l (minTo l)
        · exact .inr c
        · exact .inl ⟨m, (dropAll_mem _ _ _).2 ⟨hm, c⟩, rfl⟩
      · rintro (⟨m, hm, rfl⟩ | h)
        · exact ⟨m, ((dropAll_mem _ _ _).1 hm).1, rfl⟩
        · obtain ⟨i, hi, rfl⟩ := (t.inc _).1 h
          exact ⟨_, t.mem i, rfl⟩
  have := hp.length_eq
  rw [List.length_append, List.length_map, List.length_map, t.circ] at this
  rw [t.circ, this]
  simp [circL]

open Classical in
theorem Turn.count (t : Turn l n f) (hn : (l.map (·.1)).Nodup) (hns : ∀ m ∈ l, m.1 ≠ m.2) : nC l = nC (dropAll l (circleR l (minTo l))) + 1 := by
  have hsub := dropAll_sublist (circleR l (minTo l)) l
  have hn' := (hsub.map (·.1)).nodup hn
  have nd : ∀ {l : List Move}, (l.map (·.1)).Nodup → l.Nodup := fun h => (List.pairwise_map.1 h).imp fun h e => h (by rw [e])
  have hmin : ∀ q ∈ l, minTo l ≤ q.1 := fun q hq => (min_le l (l.getD 0 (0, 0)).1).2 q hq
  have hn1 : 1 ≤ n := by
    cases n with
    | zero => exact absurd t.endd.symm (hns _ (t.mem 0))
    | succ n => omega
  have hx : MinC l (minTo l) := by
    refine ⟨n, hn1, fun k hk h => ?_, fun k hk => ?_, ?_⟩
    · have h1 := hmin _ (t.mem k)
      have h2 := t.dist 0 k (by omega) hk
      rw [t.f0] at h2
      rw [← t.it]
      simp only at h1
      omega
    · rw [← t.it, ← t.it]; exact t.mem k
    · rw [← t.it, t.endd, t.f0]
  have hin : ∀ y ∈ circleR l (minTo l), MinC l y → y = minTo l := fun y hy h => by
    obtain ⟨j, hj, rfl⟩ := (t.inc y).1 hy
    have h1 := h.le (n + 1 - j)
    rw [t.it j, its_its, show j + (n + 1 - j) = n + 1 by omega, ← t.it (n + 1), t.endd, t.f0, ← t.it j] at h1
    have h2 := hmin _ (t.mem j)
    simp only at h2
    omega
  have key : (l.filter fun q => decide (MinC l q.1)).Perm ((f 0, f 1) :: (dropAll l (circleR l (minTo l))).filter fun q => decide (MinC (dropAll l (circleR l (minTo l))) q.1)) := by
    refine (List.perm_ext_iff_of_nodup ((nd hn).filter _) ?_).2 fun p => ?_
    · rw [List.nodup_cons]
      refine ⟨fun h => ?_, (nd hn').filter _⟩
      have := ((dropAll_mem _ _ _).1 (List.mem_filter.1 h).1).2
      exact this ((t.inc _).2 ⟨0, Nat.zero_le _, rfl⟩)
    · rw [List.mem_cons, List.mem_filter, List.mem_filter, dropAll_mem, decide_eq_true_iff, decide_eq_true_iff]
      constructor
      · rintro ⟨h1, h2⟩
        by_cases c : p.1 ∈ circleR l (minTo l)
        · left
          refine uniq hn h1 (t.mem 0) ?_
          rw [hin _ c h2]; exact t.f0.symm
        · right
          refine ⟨⟨h1, c⟩, MinC.down hn hn' (fun m hm => hsub.subset hm) h2 fun k hk ⟨n2, hkn, he, hm⟩ => (dropAll_mem _ _ _).2 ⟨hk, fun hc => c ?_⟩⟩
          have up : ∀ d, k + d ≤ n2 + 1 → itS l p.1 (k + d) ∈ circleR l (minTo l) := fun d => by
            induction d with
            | zero => intro _; exact hc
            | succ d ih =>
              intro hd
              exact t.closed hn _ (hm (k + d) (by omega)) (ih (by omega))
          have := up (n2 + 1 - k) (by omega)
          rw [show k + (n2 + 1 - k) = n2 + 1 by omega, he] at this
          exact this
      · rintro (rfl | ⟨⟨h1, h2⟩, h3⟩)
        · exact ⟨t.mem 0, by rw [show (f 0, f 1).1 = minTo l from t.f0]; exact hx⟩
        · exact ⟨h1, MinC.up hn (fun m hm => hsub.subset hm) h3⟩
  have := key.length_eq
  rw [nC, nC, this]; rfl
end

/-! ### Registers alone -/
def Only (ps : Int → Prop) (c : List Mac) : Prop := ∀ m ∈ c, ps m.op

theorem bring_regs {sc sp : Int} (s : List Mac × Int) {to frm : Int} (h : to < 16 ∧ frm < 16) (hs : s.2 = 0) : bringR sc sp s to frm = (s.1 ++ [movM to frm], 0) := by
  unfold bringR bringC
  rw [if_neg (by simp [hs]), if_pos h]

theorem fold_regs {sc sp : Int} : ∀ (ps : List (Int × Int)) (s : List Mac × Int), s.2 = 0 → (∀ p ∈ ps, p.1 < 16 ∧ p.2 < 16) → ps.foldl (fun s p => bringR sc sp s p.1 p.2) s = (s.1 ++ ps.map fun p => movM p.1 p.2, 0)
  | [], s, hs, _ => by
    obtain ⟨a, b⟩ := s
    simp at hs ⊢; exact hs
  | p :: ps, s, hs, h => by
    rw [List.foldl_cons, bring_regs s (h p List.mem_cons_self) hs, fold_regs ps _ rfl (fun q hq => h q (List.mem_cons_of_mem _ hq))]
    simp

theorem few_loop {sc : Int} (h1 : sc = -1 ∨ sc = 15) : ∀ (k : Nat) (l : List Move) (s : List Mac × Int), l.length ≤ k → OkM l → (∀ m ∈ l, m.1 < 16 ∧ m.2 < 16) → (∀ m ∈ l, m.1 ≠ m.2) → s.2 = 0 →
    (loopR sc (-1) k l s).2 = 0 ∧ (sc = 15 → (loopR sc (-1) k l s).1.length = s.1.length + l.length + nC l) ∧ (sc = -1 → (loopR sc (-1) k l s).1.length + nC l = s.1.length + l.length) ∧
    (sc = 15 → Only (fun o => o = 1) s.1 → Only (fun o => o = 1) (loopR sc (-1) k l s).1) ∧ (sc = -1 → Only (fun o => o = 1 ∨ o = 2) s.1 → Only (fun o => o = 1 ∨ o = 2) (loopR sc (-1) k l s).1)
  | 0, l, s, hk, _, _, _, hs => by
    have : l = [] := List.length_eq_zero_iff.1 (by omega)
    subst this
    exact ⟨hs, fun _ => by simp [loopR, nC], fun _ => by simp [loopR, nC], fun _ h => h, fun _ h => h⟩
  | k + 1, l, s, hk, hok, hreg, hns, hs => by
    simp only [loopR]
    by_cases c0 : l.length = 0 ∨ s.2 ≠ 0
    · rw [if_pos c0]
      have hl : l = [] := by
        rcases c0 with h | h
        · exact List.length_eq_zero_iff.1 h
        · exact absurd hs h
      subst hl
      exact ⟨hs, fun _ => by simp [nC], fun _ => by simp [nC], fun _ h => h, fun _ h => h⟩
    rw [if_neg c0]
    have hpos : ∀ q ∈ l, 0 ≤ q.1 := fun q hq => (hok.pl q hq).1.1
    by_cases c1 : 0 ≤ freeR l
    · rw [if_pos c1]
      have hff := (free_fold l l (-1) hpos).1 (by decide)
      change (freeR l = -1 ∧ _) ∨ (∃ q ∈ l, freeR l = q.1 ∧ (l.any fun k => k.2 == q.1) = false ∧ _) at hff
      obtain ⟨q, hq, e, hnf, _⟩ := hff.resolve_left (fun h => by omega)
      rw [e, source_of hok.nd hq, bring_regs s (hreg q hq) hs]
      have hnf' : ∀ m ∈ l, m.2 ≠ q.1 := fun m hm e => by
        have := List.any_eq_false.1 hnf m hm
        exact this (beq_iff_eq.2 e)
      have hlt := step_free_lt c1
      rw [e] at hlt
      have hsub : (l.filter fun m => m.1 != q.1).Sublist l := List.filter_sublist
      have hlen : l.length = (l.filter fun m => m.1 != q.1).length + 1 := by
        have hp : l.Perm (q :: l.filter fun m => m.1 != q.1) := by
          have nd : ∀ {l : List Move}, (l.map (·.1)).Nodup → l.Nodup := fun h => (List.pairwise_map.1 h).imp fun h e => h (by rw [e])
          refine (List.perm_ext_iff_of_nodup (nd hok.nd) ?_).2 fun a => ?_
          · rw [List.nodup_cons]
            exact ⟨fun h => by have := (List.mem_filter.1 h).2; simp at this, (nd hok.nd).filter _⟩
          · rw [List.mem_cons, List.mem_filter]
            constructor
            · intro h
              by_cases c : a.1 = q.1
              · exact .inl (uniq hok.nd h hq c)
              · exact .inr ⟨h, by simpa using c⟩
            · rintro (rfl | h)
              · exact hq
              · exact h.1
        simpa using hp.length_eq
      have hc := nC_free hok.nd hq hnf'
      obtain ⟨i1, i2, i3, i4, i5⟩ := few_loop h1 k (l.filter fun m => m.1 != q.1) (s.1 ++ [movM q.1 q.2], 0) (by omega) (hok.sub hsub) (fun m hm => hreg m (hsub.subset hm)) (fun m hm => hns m (hsub.subset hm)) rfl
      refine ⟨i1, fun h => ?_, fun h => ?_, fun h ho => i4 h fun m hm => ?_, fun h ho => i5 h fun m hm => ?_⟩
      · have := i2 h; simp only [List.length_append, List.length_cons, List.length_nil] at this; omega
      · have := i3 h; simp only [List.length_append, List.length_cons, List.length_nil] at this; omega
      · rcases List.mem_append.1 hm with hm | hm
        · exact ho m hm
        · rw [List.mem_singleton.1 hm]; rfl
      · rcases List.mem_append.1 hm with hm | hm
        · exact ho m hm
        · rw [List.mem_singleton.1 hm]; exact .inl rfl
    · rw [if_neg c1]
      have hne : l ≠ [] := fun h => c0 (.inl (by rw [h]; rfl))
      obtain ⟨n, f, t⟩ := turn_of hok.nd hpos hne c1
      have hlt := step_circle_lt (l := l) (fun h => c0 (.inl h))
      have hlen := t.len hok.nd
      have hcnt := t.count hok.nd hns
      have hsub := dropAll_sublist (circleR l (minTo l)) l
      have hreg' : ∀ i ≤ n, f i < 16 := fun i _ => (hreg _ (t.mem i)).1
      have hr : regsR (circL f n) = true := (circ_regs f n).2 hreg'
      have hround : ∃ c, roundR sc (-1) s (circleR l (minTo l)) = (s.1 ++ c, 0) ∧ (sc = 15 → c.length = n + 2 ∧ Only (fun o => o = 1) c) ∧ (sc = -1 → c.length = n ∧ Only (fun o => o = 1 ∨ o = 2) c) := by
        rw [t.circ]
        unfold roundR
        by_cases cs : sc < 0
        · rw [if_pos ⟨hr, cs⟩, pairs_circ, List.map_map, hs]
          refine ⟨_, rfl, fun h => by omega, fun _ => ⟨by simp, fun m hm => ?_⟩⟩
          obtain ⟨i, _, rfl⟩ := List.mem_map.1 hm
          exact .inr rfl
        · rw [if_neg (fun h => cs h.2), if_neg (by rw [hr]; simp)]
          simp only
          have e15 : sc = 15 := by omega
          rw [hr, if_pos rfl, circ_last, circ_zero, pairs_circ, bring_regs s ⟨by omega, hreg' 0 (Nat.zero_le _)⟩ hs, fold_regs _ _ rfl (fun p hp => by
            obtain ⟨i, hi, rfl⟩ := List.mem_map.1 hp
            have := List.mem_range.1 hi
            exact ⟨hreg' i (by omega), hreg' (i + 1) (by omega)⟩), bring_regs _ ⟨hreg' n (Nat.le_refl _), by omega⟩ rfl]
          refine ⟨[movM sc (f 0)] ++ (((List.range n).map fun j => (f j, f (j + 1))).map fun p => movM p.1 p.2) ++ [movM (f n) sc], by simp, fun _ => ⟨by simp, fun m hm => ?_⟩, fun h => by omega⟩
          rcases List.mem_append.1 hm with hm | hm
          · rcases List.mem_append.1 hm with hm | hm
            · rw [List.mem_singleton.1 hm]; rfl
            · obtain ⟨p, _, rfl⟩ := List.mem_map.1 hm; rfl
          · rw [List.mem_singleton.1 hm]; rfl
      obtain ⟨c, hrd, hc15, hc1⟩ := hround
      rw [hrd]
      obtain ⟨i1, i2, i3, i4, i5⟩ := few_loop h1 k (dropAll l (circleR l (minTo l))) (s.1 ++ c, 0) (by omega) (hok.sub hsub) (fun m hm => hreg m (hsub.subset hm)) (fun m hm => hns m (hsub.subset hm)) rfl
      refine ⟨i1, fun h => ?_, fun h => ?_, fun h ho => i4 h fun m hm => ?_, fun h ho => i5 h fun m hm => ?_⟩
      · have := i2 h; have := (hc15 h).1; simp only [List.length_append] at *; omega
      · have := i3 h; have := (hc1 h).1; simp only [List.length_append] at *; omega
      · rcases List.mem_append.1 hm with hm | hm
        · exact ho m hm
        · exact (hc15 h).2 m hm
      · rcases List.mem_append.1 hm with hm | hm
        · exact ho m hm
        · exact (hc1 h).2 m hm

/-- **How many instructions an order of registers alone has, and which.** -/
theorem order_few {l : List Move} (hok : OkM l) (hreg : ∀ m ∈ l, m.1 < 16 ∧ m.2 < 16) :
    (orderR l 15 (-1)).2 = 0 ∧ (orderR l (-1) (-1)).2 = 0 ∧ (orderR l 15 (-1)).1.length = (realM l).length + (circR l).length ∧ (orderR l (-1) (-1)).1.length + (circR l).length = (realM l).length ∧
    Only (fun o => o = 1) (orderR l 15 (-1)).1 ∧ Only (fun o => o = 1 ∨ o = 2) (orderR l (-1) (-1)).1 := by
  have hsub : (realM l).Sublist l := List.filter_sublist
  have go : ∀ sc : Int, (sc = -1 ∨ sc = 15) → (orderR l sc (-1)) = ((loopR sc (-1) (realM l).length (realM l) ([], 0)).1, 0) := fun sc h1 => by
    have hf := few_loop h1 (realM l).length (realM l) ([], 0) (Nat.le_refl _) (hok.sub hsub) (fun m hm => hreg m (hsub.subset hm)) (fun m hm => by simpa using (List.mem_filter.1 hm).2) rfl
    unfold orderR
    rw [if_neg (by simp [hok.wrong h1 (sp := -1) (.inl rfl)])]
    simp only
    rw [if_neg (by simp [hf.1])]
  have f15 := few_loop (sc := 15) (.inr rfl) (realM l).length (realM l) ([], 0) (Nat.le_refl _) (hok.sub hsub) (fun m hm => hreg m (hsub.subset hm)) (fun m hm => by simpa using (List.mem_filter.1 hm).2) rfl
  have f1 := few_loop (sc := -1) (.inl rfl) (realM l).length (realM l) ([], 0) (Nat.le_refl _) (hok.sub hsub) (fun m hm => hreg m (hsub.subset hm)) (fun m hm => by simpa using (List.mem_filter.1 hm).2) rfl
  have hn : (circR l).length = nC (realM l) := by rw [nC_circ hok.nd, nC_real hok.nd]
  rw [go 15 (.inr rfl), go (-1) (.inl rfl), hn]
  refine ⟨rfl, rfl, ?_, ?_, f15.2.2.2.1 rfl (fun m hm => by cases hm), f1.2.2.2.2 rfl (fun m hm => by cases hm)⟩
  · have := f15.2.1 rfl; simpa using this
  · have := f1.2.2.1 rfl; simpa using this
end Go.Ab

/- MovesFew. -/
namespace Go.Ab
open Go.Proofs

/-- Behind a loop, what is one's own may be let go. -/
theorem tri_post {P : Program} {n0 : Lim} {cx : Cx} {rnd : Option Nat} {S : Sy} {c : Code} {Q : Post} {env : Env} {H : Heap} (hS : S = reals P cx rnd n0) (hn : n0.n ≤ H.length)
    (h : S .tri c (fun x env' H' => match x with | .pan v => Q (.pan v) env' H' | x => ∃ env'' H'', Wk n0 env' H' env'' H'' ∧ Q x env'' H'') env H) : S .tri c Q env H := by
  subst hS
  intro G a w hc s
  refine wpIn_mono (h G a w hc s) (fun e a'' w'' hq => ?_)
  obtain ⟨x, G2, env2, H2, hx, he2, hs2, hq⟩ := hq
  have hn2 : n0.n ≤ H2.length := by rw [← hs2.h.n]; exact he2.len (by rw [s.h.n]; exact hn)
  cases x with
  | pan v => exact ⟨_, G2, env2, H2, hx, he2, hs2, hq⟩
  | norm =>
    obtain ⟨env3, H3, hwk, hq⟩ := hq
    obtain ⟨G3, he3, hs3⟩ := hs2.wk hn2 hwk
    cases e <;> try exact hx.elim
    exact ⟨.norm, G3, env3, H3, trivial, he2.trans he3, hs3, hq⟩
  | exit i =>
    obtain ⟨env3, H3, hwk, hq⟩ := hq
    obtain ⟨G3, he3, hs3⟩ := hs2.wk hn2 hwk
    cases e <;> try exact hx.elim
    exact ⟨.exit i, G3, env3, H3, hx, he2.trans he3, hs3, hq⟩
  | ret =>
    obtain ⟨env3, H3, hwk, hq⟩ := hq
    obtain ⟨G3, he3, hs3⟩ := hs2.wk hn2 hwk
    cases e <;> try exact hx.elim
    exact ⟨.ret, G3, env3, H3, trivial, he2.trans he3, hs3, hq⟩

theorem Wk.to {n0 : Lim} {env env1 env2 : List V} {H H1 : Heap} (h : Wk n0 env H env1 H1) (e : env1 = env2) : Wk n0 env H env2 H1 := e ▸ h

def regB (m : Move) : Bool := decide (m.1 < 16) && decide (m.2 < 16)

theorem filter_take {α : Type} (f : α → Bool) (l : List α) (d : α) {i : Nat} (h : i < l.length) : (l.take (i + 1)).filter f = (l.take i).filter f ++ if f (l.getD i d) then [l.getD i d] else [] := by
  rw [List.take_add_one, List.filter_append, List.getElem?_eq_getElem h, List.getD_eq_getElem?_getD, List.getElem?_eq_getElem h]
  simp [List.filter_cons]

def tr4 : Nat → DT := fun _ => (.take 0 (.take 1 (.take 2 (.take 3 (.take 5 (.take 6 (.take 7 (.take 8 (.alt 4 (.alt 9 (.take 10 .done) .stop) (.alt 9 (.alt 4 (.take 10 .done) .stop) .stop))))))))))

set_option maxHeartbeats 8000000 in
theorem fewlaw_ct (yl : Nat) (fs : Bool) (s : List Int) : CT Try.prog (Cx.plain yl) noAr 4 [vI fs s] [] (fun o H => o = .ret (.bool true) ∧ H = []) := by
  refine CT_of_W (tab := tabM) (D := []) (tr := tr4) Try.func4 (by kernel_rfl) rfl tabM_ok (Cx.plain_ok _ _) (by kernel_rfl) (fun z S R hz hS hR => ?_)
  cbv
  refine use_ct [] hS (Cx.plain_ok _ _) rfl (fun yl => awake_ct yl) (may_none []) ?_
  rintro o h' ⟨rfl, rfl⟩
  cbv
  refine use_ct [] hS (Cx.plain_ok _ _) rfl (fun yl => made_ct yl fs s) (may_none []) ?_
  rintro o h' ⟨l, hl, rfl, rfl⟩
  have hll : l.length ≤ 24 := by
    have := madeTo_len s (min s.length 20)
    rw [hl]; unfold madeR; omega
  have hok : OkM l := by rw [hl]; exact made_ok s
  clear hl
  cbv
  refine tri_post hS (Nat.zero_le _) ?_
  refine tri_loop hS (Cx.plain_ok _ _) (Nat.zero_le _) (fun m env H => ∃ (i n : Nat) (c : Nat) (ys : List Move), i ≤ l.length ∧ m = l.length - i ∧ n = ys.length ∧ ys = (l.take i).filter regB ∧ c = (realM ys).length ∧
      env = mkE 128 [(3, .bool true), (4, vM false l), (5, .ref 0 2 0 n), (6, .int .i64 c), (7, .int .i64 i)] ∧ H = [.arr 31 elM ys]) l.length
    (.trans (.keep [3, 4, 5, 6, 7]) (.own 5 31 elM_ok rfl)) (Nat.zero_le _) ⟨0, 0, 0, [], Nat.zero_le _, rfl, rfl, rfl, rfl, rfl, rfl⟩ ?_
  rintro m env H ⟨i, n, c, ys, hi, rfl, hn, hys, hc, rfl, rfl⟩ hh
  have hny : n ≤ 24 := by rw [hn, hys]; exact Nat.le_trans (List.length_filter_le _ _) (by rw [List.length_take]; omega)
  have hcy : c ≤ 24 := by rw [hc]; exact Nat.le_trans (List.length_filter_le _ _) (by rw [← hn]; exact hny)
  refine T_of_W (tab := tabM) (D := []) (tr := tr4) tabM_ok (Cx.plain_ok _ _) (by kernel_rfl) hh (fun z' S' Q' hz' hS' hQ => ?_)
  cbv
  rcases h1 : z' .lt (Int.ofNat i) (S' .len (Int × Int) l) with _ | _
  · have e : l.take i = l := by
      rw [hz', hS'] at h1
      have : ¬ (i : Int) < (l.length : Int) := of_decide_eq_false h1
      exact List.take_of_length_le (by omega)
    rw [e] at hys
    cbv
    apply hQ
    clear hQ
    have hoky : OkM ys := hok.sub (by rw [hys]; exact List.filter_sublist)
    have hregy : ∀ m ∈ ys, m.1 < 16 ∧ m.2 < 16 := fun m hm => by
      rw [hys] at hm
      have := (List.mem_filter.1 hm).2
      unfold regB at this
      simpa using this
    obtain ⟨f1, f2, f3, f4, f5, f6⟩ := order_few hoky hregy
    have hyl : ys.length ≤ 24 := by rw [← hn]; exact hny
    rw [← hc] at f3 f4
    have ety : ys.take n = ys := by rw [hn, List.take_length]
    have key : ∀ env' : List V, Wk ⟨0, noAr⟩ env' [.arr 31 elM ys] (frzL 0 elM ys env') [.dead] := fun env' => .freeze 0 rfl
    refine ⟨mkE 128 [(3, .bool true), (5, vM false ys), (6, .int .i64 (Int.ofNat c))], [.dead], Wk.to (.trans (key _) (.keep [3, 5, 6])) ?_, ?_⟩
    · show mkE 128 [(3, .bool true), (5, vM false (ys.take n)), (6, .int .i64 (Int.ofNat c))] = _
      rw [ety]
    clear key ety hn hys
    cbv
    refine use_ct [] hS (Cx.plain_ok _ _) rfl (fun yl => circlesR_ct yl false ys (by omega) hoky.nd) (may_none []) ?_
    rintro o h' ⟨cs, hcs, rfl, rfl⟩
    have hcl := hcs.length_eq
    clear hcs
    cbv
    obtain ⟨c8, h8⟩ : ∃ c8, c8 = S .len (List Int) cs := ⟨_, rfl⟩
    rw [← h8]
    have h8' : c8 = ((circR ys).length : Int) := by rw [h8, hS]; show (cs.length : Int) = _; rw [hcl]
    clear h8 hcl
    have hck : (circR ys).length ≤ ys.length := circR_len ys
    refine use_ct [] hS (Cx.plain_ok _ _) rfl (fun yl => order17e_ct yl false ys 15 (-1) hyl (by decide)) (may_none []) ?_
    rintro o h' ⟨A, e1, hA, he1, rfl, rfl⟩
    obtain rfl : e1 = 0 := by rw [he1, f1]
    rw [← hA] at f3 f5
    clear hA he1 f1
    cbv
    refine use_ct [] hS (Cx.plain_ok _ _) rfl (fun yl => order17e_ct yl false ys (-1) (-1) hyl (by decide)) (may_none []) ?_
    rintro o h' ⟨B, e2, hB, he2, rfl, rfl⟩
    obtain rfl : e2 = 0 := by rw [he2, f2]
    rw [← hB] at f4 f6
    clear hB he2 f2
    cbv
    refine tri_loop hS (Cx.plain_ok _ _) (Nat.zero_le _) (fun m env H => ∃ (i : Nat), i ≤ A.length ∧ m = A.length - i ∧
        env = mkE 128 [(3, .bool true), (6, .int .i64 (Int.ofNat c)), (8, .int .i64 c8), (9, vK false A), (10, .int .i64 0), (11, vK false B), (12, .int .i64 0), (13, .int .i64 i)] ∧ H = [.dead]) A.length
      (.keep [3, 6, 8, 9, 10, 11, 12, 13]) (Nat.zero_le _) ⟨0, Nat.zero_le _, rfl, rfl, rfl⟩ ?_
    rintro m env H ⟨i2, hi2, rfl, rfl, rfl⟩ hh
    refine T_of_W (tab := tabM) (D := []) (tr := tr4) tabM_ok (Cx.plain_ok _ _) (by kernel_rfl) hh (fun z2 S2 Q2 hz2 hS2 hQ2 => ?_)
    cbv
    rcases h2 : z2 .lt (Int.ofNat i2) (S2 .len Mac A) with _ | _
    · cbv
      apply hQ2
      clear hQ2
      cbv
      refine tri_loop hS (Cx.plain_ok _ _) (Nat.zero_le _) (fun m env H => ∃ (i : Nat), i ≤ B.length ∧ m = B.length - i ∧
          env = mkE 128 [(3, .bool true), (6, .int .i64 (Int.ofNat c)), (8, .int .i64 c8), (9, vK false A), (10, .int .i64 0), (11, vK false B), (12, .int .i64 0), (14, .int .i64 i)] ∧ H = [.dead]) B.length
        (.keep [3, 6, 8, 9, 10, 11, 12, 14]) (Nat.zero_le _) ⟨0, Nat.zero_le _, rfl, rfl, rfl⟩ ?_
      rintro m env H ⟨i3, hi3, rfl, rfl, rfl⟩ hh
      refine T_of_W (tab := tabM) (D := []) (tr := tr4) tabM_ok (Cx.plain_ok _ _) (by kernel_rfl) hh (fun z3 S3 Q3 hz3 hS3 hQ3 => ?_)
      cbv
      rcases h3 : z3 .lt (Int.ofNat i3) (S3 .len Mac B) with _ | _
      · cbv
        apply hQ3
        clear hQ3
        have q0 : z .eq 0 0 = true := by rw [hz]; rfl
        have h8 : c8 = ((circR ys).length : Int) := h8'
        have q1 : z .eq (S .len Mac A) (z .ar .add .i64 (Int.ofNat c) c8) = true := by
          rw [hz, hS]
          show ((A.length : Int) == IntKind.wrap .i64 ((c : Int) + c8)) = true
          rw [wrap_small (by omega) (by omega)]
          exact beq_iff_eq.2 (by omega)
        have q2 : z .eq (S .len Mac B) (z .ar .sub .i64 (Int.ofNat c) c8) = true := by
          rw [hz, hS]
          show ((B.length : Int) == IntKind.wrap .i64 ((c : Int) - c8)) = true
          rw [wrap_small (by omega) (by omega)]
          exact beq_iff_eq.2 (by omega)
        cbv
        rw [q0]
        cbv
        rw [q0]
        cbv
        rw [q1]
        cbv
        rw [q2]
        cbv
        exact hR _ _ _ _ (.drop 0 rfl (Nat.zero_le _)) ⟨rfl, rfl⟩
      · have hlt : i3 < B.length := by
          rw [hz3, hS3] at h3
          have : (i3 : Int) < (B.length : Int) := of_decide_eq_true h3
          omega
        have einc : z3 .ar .add .i64 (Int.ofNat i3) 1 = Int.ofNat (i3 + 1) := by rw [hz3]; exact rz_inc i3 (by omega)
        have hidx : S3 .idx Mac B (Int.ofNat i3) := by rw [hS3]; simp [reals]; omega
        have hop := f6 (B.getD i3 ⟨0, 0, 0, 0, 0, 0, 0⟩) (by rw [List.getD_eq_getElem?_getD, List.getElem?_eq_getElem hlt]; exact List.getElem_mem hlt)
        have eat : S3 .at_ Mac ⟨0, 0, 0, 0, 0, 0, 0⟩ B (z3 .nat (Int.ofNat i3)) = B.getD i3 ⟨0, 0, 0, 0, 0, 0, 0⟩ := by rw [hS3, hz3]; rfl
        have fin : ∀ env', keepE [3, 6, 8, 9, 10, 11, 12, 14] env' = mkE 128 [(3, .bool true), (6, .int .i64 (Int.ofNat c)), (8, .int .i64 c8), (9, vK false A), (10, .int .i64 0), (11, vK false B), (12, .int .i64 0), (14, .int .i64 (Int.ofNat (i3 + 1)))] → Q3 .norm env' [.dead] := fun env' he => by
          apply hQ3
          exact ⟨_, _, _, by omega, .keep [3, 6, 8, 9, 10, 11, 12, 14], i3 + 1, hlt, rfl, he, rfl⟩
        clear hQ3 hR
        cbv
        refine ⟨hidx, ?_⟩
        rw [eat]
        generalize B.getD i3 ⟨0, 0, 0, 0, 0, 0, 0⟩ = m at hop eat ⊢
        obtain ⟨op, x2, x3, x4, x5, x6, x7⟩ := m
        cbv
        rcases g1 : z3 .ne op 1 with _ | _
        · cbv
          rw [einc]
          exact fin _ rfl
        · have hop2 : op = 2 := by
            have hop : op = 1 ∨ op = 2 := hop
            have : op ≠ 1 := by rw [hz3] at g1; exact bne_iff_ne.1 g1
            omega
          have g2 : z3 .ne op 2 = false := by rw [hz3, hop2]; rfl
          cbv
          refine ⟨hidx, ?_⟩
          rw [eat]
          cbv
          rw [g2]
          cbv
          rw [einc]
          exact fin _ rfl
    · have hlt : i2 < A.length := by
        rw [hz2, hS2] at h2
        have : (i2 : Int) < (A.length : Int) := of_decide_eq_true h2
        omega
      have einc : z2 .ar .add .i64 (Int.ofNat i2) 1 = Int.ofNat (i2 + 1) := by rw [hz2]; exact rz_inc i2 (by omega)
      have hidx : S2 .idx Mac A (Int.ofNat i2) := by rw [hS2]; simp [reals]; omega
      have hop := f5 (A.getD i2 ⟨0, 0, 0, 0, 0, 0, 0⟩) (by rw [List.getD_eq_getElem?_getD, List.getElem?_eq_getElem hlt]; exact List.getElem_mem hlt)
      have eat : S2 .at_ Mac ⟨0, 0, 0, 0, 0, 0, 0⟩ A (z2 .nat (Int.ofNat i2)) = A.getD i2 ⟨0, 0, 0, 0, 0, 0, 0⟩ := by rw [hS2, hz2]; rfl
      have fin : ∀ env', keepE [3, 6, 8, 9, 10, 11, 12, 13] env' = mkE 128 [(3, .bool true), (6, .int .i64 (Int.ofNat c)), (8, .int .i64 c8), (9, vK false A), (10, .int .i64 0), (11, vK false B), (12, .int .i64 0), (13, .int .i64 (Int.ofNat (i2 + 1)))] → Q2 .norm env' [.dead] := fun env' he => by
        apply hQ2
        exact ⟨_, _, _, by omega, .keep [3, 6, 8, 9, 10, 11, 12, 13], i2 + 1, hlt, rfl, he, rfl⟩
      clear hQ2 hR
      cbv
      refine ⟨hidx, ?_⟩
      rw [eat]
      generalize A.getD i2 ⟨0, 0, 0, 0, 0, 0, 0⟩ = m at hop eat ⊢
      obtain ⟨op, x2, x3, x4, x5, x6, x7⟩ := m
      have g1 : z2 .ne op 1 = false := by
        have hop : op = 1 := hop
        rw [hz2, hop]; rfl
      cbv
      rw [g1]
      cbv
      rw [einc]
      exact fin _ rfl
  · have hlt : i < l.length := by
      rw [hz', hS'] at h1
      have : (i : Int) < (l.length : Int) := of_decide_eq_true h1
      omega
    have einc : z' .ar .add .i64 (Int.ofNat i) 1 = Int.ofNat (i + 1) := by rw [hz']; exact rz_inc i (by omega)
    have eincc : z' .ar .add .i64 (Int.ofNat c) 1 = Int.ofNat (c + 1) := by rw [hz']; exact rz_inc c (by omega)
    have eat : S' .at_ (Int × Int) (0, 0) l (z' .nat (Int.ofNat i)) = l.getD i (0, 0) := by rw [hS', hz']; rfl
    have hidx : S' .idx (Int × Int) l (Int.ofNat i) := by rw [hS']; simp [reals]; omega
    have hdrw : ∀ H, S' .drw H := fun H => by rw [hS']; exact ⟨rfl, by kernel_rfl⟩
    have hst := filter_take regB l (0, 0) hlt
    rw [← hys] at hst
    generalize l.getD i (0, 0) = q at hst eat
    obtain ⟨to, frm⟩ := q
    have skip : regB (to, frm) = false → ∀ env', keepE [3, 4, 5, 6, 7] env' = mkE 128 [(3, .bool true), (4, vM false l), (5, .ref 0 2 0 n), (6, .int .i64 (Int.ofNat c)), (7, .int .i64 (Int.ofNat (i + 1)))] → Q' .norm env' [.arr 31 elM ys] := fun h env' he => by
      apply hQ
      exact ⟨_, _, _, by omega, .keep [3, 4, 5, 6, 7], i + 1, n, c, ys, hlt, rfl, hn, by rw [hst, h]; simp, hc, he, rfl⟩
    have take : regB (to, frm) = true → ∀ env' c' n' zs, zs = ys ++ [(to, frm)] → n' = n + 1 → c' = c + (if to ≠ frm then 1 else 0) → keepE [3, 4, 5, 6, 7] env' = mkE 128 [(3, .bool true), (4, vM false l), (5, .ref 0 2 0 n'), (6, .int .i64 (Int.ofNat c')), (7, .int .i64 (Int.ofNat (i + 1)))] → Q' .norm env' [.arr 31 elM zs] := fun h env' c' n' zs hz hn' hc' he => by
      apply hQ
      refine ⟨_, _, _, by omega, .keep [3, 4, 5, 6, 7], i + 1, n', c', zs, hlt, rfl, by rw [hz, hn', hn]; simp, by rw [hst, h, hz]; rfl, ?_, he, rfl⟩
      rw [hz, hc', realM, List.filter_append, List.length_append, hc, realM]
      by_cases e : to = frm
      · simp [e]
      · simp [e]
    clear hQ hR
    have r1 : z' .lt to 16 = decide (to < 16) := by rw [hz']; rfl
    have r2 : z' .lt frm 16 = decide (frm < 16) := by rw [hz']; rfl
    have r3 : z' .ne to frm = (to != frm) := by rw [hz']; rfl
    cbv
    refine ⟨hidx, ?_⟩
    rw [eat]
    cbv
    by_cases c1 : to < 16
    · rw [r1, decide_eq_true c1]
      cbv
      refine ⟨hidx, ?_⟩
      rw [eat]
      cbv
      by_cases c2 : frm < 16
      · have hreg : regB (to, frm) = true := by simp [regB, c1, c2]
        rw [r2, decide_eq_true c2]
        cbv
        refine ⟨hidx, ?_⟩
        rw [eat]
        cbv
        refine ⟨by rw [hz']; show n + 1 ≤ 1000000; omega, by rw [hS']; exact fun k hk => absurd hk (Nat.not_lt_zero _), ?_⟩
        have eblk : S' .app elM.α (S' .cut elM.α ys 0 n) [(to, frm)] = ys ++ [(to, frm)] := by
          rw [hS']
          show (ys.take n).drop 0 ++ [(to, frm)] = _
          rw [hn, List.take_length]; rfl
        have en : z' .add n 1 = n + 1 := by rw [hz']; rfl
        refine ⟨hdrw _, ?_⟩
        by_cases c3 : to = frm
        · have r4 : z' .ne (to, frm).1 (to, frm).2 = false := r3.trans (by simp [c3])
          cbv
          rw [r4]
          repeat' first
            | exact trivial
            | exact hidx
            | refine And.intro ?_ ?_
            | (cbv; rw [einc]; exact take hreg _ c _ _ eblk en (by rw [if_neg (fun h => h c3)]; rfl) rfl)
            | fail
        · have r4 : z' .ne (to, frm).1 (to, frm).2 = true := r3.trans (by simpa using c3)
          cbv
          rw [r4]
          repeat' first
            | exact trivial
            | exact hidx
            | refine And.intro ?_ ?_
            | (cbv; rw [eincc, einc]; exact take hreg _ (c + 1) _ _ eblk en (by rw [if_pos c3]) rfl)
            | fail
      · have hreg : regB (to, frm) = false := by simp [regB, c2]
        rw [r2, decide_eq_false c2]
        cbv
        rw [einc]
        exact skip hreg _ rfl
    · have hreg : regB (to, frm) = false := by simp [regB, c1]
      rw [r1, decide_eq_false c1]
      cbv
      rw [einc]
      exact skip hreg _ rfl
end Go.Ab
