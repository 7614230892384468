/- Contracts of the program's functions over an abstract state, and what they rest on: part AbV. No condition. -/
import Derived.Test.YtdpmlgfkdgabkaaAbU
set_option linter.unusedVariables false
set_option linter.unusedSimpArgs false

/- What is lacking, plainly. -/
namespace Go.Ab
open Go.Proofs

/-- A place that lies on a closed way of moves. -/
def OnC (l : List Move) (y : Int) : Prop := ∃ (f : Nat → Int) (n : Nat), f (n + 1) = f 0 ∧ (∀ i ≤ n, (f i, f (i + 1)) ∈ l) ∧ ∃ j ≤ n, f j = y

def Bad (sc : Int) (l : List Move) : Prop := (sc < 0 ∧ ∃ m ∈ l, 16 ≤ m.1 ∧ 16 ≤ m.2) ∨ ∃ y, 16 ≤ y ∧ OnC l y

theorem OnC.sub {l l' : List Move} (h : ∀ m ∈ l', m ∈ l) {y : Int} (o : OnC l' y) : OnC l y := by
  obtain ⟨f, n, a, b, c⟩ := o
  exact ⟨f, n, a, fun i hi => h _ (b i hi), c⟩

theorem OnC.nil {y : Int} (o : OnC [] y) : False := by
  obtain ⟨f, n, a, b, c⟩ := o
  exact absurd (b 0 (Nat.zero_le _)) (by simp)

theorem OnC.free {l : List Move} {x y : Int} (hx : ∀ m ∈ l, m.2 ≠ x) (o : OnC l y) : OnC (l.filter fun m => m.1 != x) y := by
  obtain ⟨f, n, a, b, c⟩ := o
  refine ⟨f, n, a, fun i hi => List.mem_filter.2 ⟨b i hi, ?_⟩, c⟩
  have : f i ≠ x := by
    cases i with
    | zero => rw [← a]; exact hx _ (b n (Nat.le_refl _))
    | succ i => exact hx _ (b i (by omega))
  simpa using this

theorem OnC.keep {l : List Move} (hn : (l.map (·.1)).Nodup) {c : List Int} (hc : ∀ m ∈ l, m.1 ∈ c → m.2 ∈ c) {y : Int} (hy : y ∉ c) (o : OnC l y) : OnC (dropAll l c) y := by
  obtain ⟨f, n, a, b, j, hj, e⟩ := o
  have up : ∀ i, i ≤ n → f i ∈ c → ∀ k, i ≤ k → k ≤ n + 1 → f k ∈ c := fun i hi h k hik => by
    induction k with
    | zero => intro _; have : i = 0 := by omega
              subst this; exact h
    | succ k ih =>
      intro hk
      by_cases e : i = k + 1
      · subst e; exact h
      · exact hc _ (b k (by omega)) (ih (by omega) (by omega))
  have no : ∀ i ≤ n, f i ∉ c := fun i hi h => by
    have h0 : f 0 ∈ c := by rw [← a]; exact up i hi h (n + 1) (by omega) (Nat.le_refl _)
    have := up 0 (Nat.zero_le _) h0 j (Nat.zero_le _) (by omega)
    rw [e] at this
    exact hy this
  exact ⟨f, n, a, fun i hi => (dropAll_mem _ _ _).2 ⟨b i hi, no i hi⟩, j, hj, e⟩

theorem bring_lack {sc : Int} (s : List Mac × Int) (to frm : Int) (hs : s.2 = 0) : (sc < 0 ∧ 16 ≤ to ∧ 16 ≤ frm → (bringR sc (-1) s to frm).2 = 43) ∧ (¬ (sc < 0 ∧ 16 ≤ to ∧ 16 ≤ frm) → (bringR sc (-1) s to frm).2 = 0) := by
  unfold bringR bringC
  rw [if_neg (by simp [hs])]
  by_cases c1 : to < 16 ∧ frm < 16
  · rw [if_pos c1]; exact ⟨fun h => by omega, fun _ => rfl⟩
  rw [if_neg c1]
  by_cases c2 : to < 16
  · rw [if_pos c2]; exact ⟨fun h => by omega, fun _ => rfl⟩
  rw [if_neg c2]
  by_cases c3 : frm < 16
  · rw [if_pos c3]; exact ⟨fun h => by omega, fun _ => rfl⟩
  rw [if_neg c3]
  by_cases c4 : 0 ≤ sc
  · rw [if_pos c4]; exact ⟨fun h => by omega, fun _ => rfl⟩
  · rw [if_neg c4, if_pos (by decide)]; exact ⟨fun _ => rfl, fun h => absurd ⟨by omega, by omega, by omega⟩ h⟩

theorem fold_lack {sc : Int} : ∀ (ps : List (Int × Int)) (s : List Mac × Int), s.2 = 0 → (∀ p ∈ ps, p.1 < 16) → (ps.foldl (fun s p => bringR sc (-1) s p.1 p.2) s).2 = 0
  | [], s, hs, _ => hs
  | p :: ps, s, hs, h => by
    rw [List.foldl_cons]
    exact fold_lack ps _ ((bring_lack s p.1 p.2 hs).2 (fun h' => by have := h p List.mem_cons_self; omega)) (fun q hq => h q (List.mem_cons_of_mem _ hq))

theorem round_lack {sc : Int} (h1 : sc = -1 ∨ sc = 15) (f : Nat → Int) (n : Nat) (s : List Mac × Int) (hs : s.2 = 0) : ((∃ i ≤ n, 16 ≤ f i) → (roundR sc (-1) s (circL f n)).2 = 43) ∧ ((∀ i ≤ n, f i < 16) → (roundR sc (-1) s (circL f n)).2 = 0) := by
  unfold roundR
  constructor
  · rintro ⟨i, hi, h⟩
    have hr : regsR (circL f n) = false := by
      cases hb : regsR (circL f n) with
      | false => rfl
      | true => have := (circ_regs f n).1 hb i hi; omega
    rw [if_neg (by rw [hr]; simp), if_pos ⟨hr, by decide⟩]
  · intro h
    have hr : regsR (circL f n) = true := (circ_regs f n).2 h
    by_cases c : sc < 0
    · rw [if_pos ⟨hr, c⟩]; exact hs
    · rw [if_neg (fun h => c h.2), if_neg (by rw [hr]; simp)]
      simp only
      rw [hr, if_pos rfl, circ_last, circ_zero, pairs_circ]
      have b1 := (bring_lack (sc := sc) s sc (f 0) hs).2 (fun h => c h.1)
      have b2 := fold_lack (sc := sc) ((List.range n).map fun j => (f j, f (j + 1))) _ b1 (fun p hp => by
        obtain ⟨i, hi, rfl⟩ := List.mem_map.1 hp
        exact h i (by have := List.mem_range.1 hi; omega))
      exact (bring_lack _ _ _ b2).2 (fun h => c h.1)

theorem loop_err {sc sp : Int} : ∀ (n : Nat) (l : List Move) (s : List Mac × Int), s.2 ≠ 0 → loopR sc sp n l s = s
  | 0, _, _, _ => rfl
  | n + 1, l, s, h => by rw [loopR, if_pos (.inr h)]

theorem lack_loop {sc : Int} (h1 : sc = -1 ∨ sc = 15) : ∀ (n : Nat) (l : List Move) (s : List Mac × Int), l.length ≤ n → OkM l → s.2 = 0 →
    (Bad sc l → (loopR sc (-1) n l s).2 = 43) ∧ (¬ Bad sc l → (loopR sc (-1) n l s).2 = 0)
  | 0, l, s, hn, _, hs => by
    have : l = [] := List.length_eq_zero_iff.1 (by omega)
    subst this
    refine ⟨fun h => ?_, fun _ => hs⟩
    rcases h with ⟨_, m, hm, _⟩ | ⟨y, _, o⟩
    · cases hm
    · exact o.nil.elim
  | n + 1, l, s, hn, hok, hs => by
    simp only [loopR]
    by_cases c0 : l.length = 0 ∨ s.2 ≠ 0
    · rw [if_pos c0]
      have hl : l = [] := by
        rcases c0 with h | h
        · exact List.length_eq_zero_iff.1 h
        · exact absurd hs h
      subst hl
      refine ⟨fun h => ?_, fun _ => hs⟩
      rcases h with ⟨_, m, hm, _⟩ | ⟨y, _, o⟩
      · cases hm
      · exact o.nil.elim
    rw [if_neg c0]
    have hpos : ∀ q ∈ l, 0 ≤ q.1 := fun q hq => (hok.pl q hq).1.1
    by_cases c1 : 0 ≤ freeR l
    · rw [if_pos c1]
      have hff := (free_fold l l (-1) hpos).1 (by decide)
      change (freeR l = -1 ∧ _) ∨ (∃ q ∈ l, freeR l = q.1 ∧ (l.any fun k => k.2 == q.1) = false ∧ _) at hff
      obtain ⟨q, hq, e, hnf, _⟩ := hff.resolve_left (fun h => by omega)
      rw [e, source_of hok.nd hq]
      have hnf' : ∀ m ∈ l, m.2 ≠ q.1 := fun m hm e => by
        have := List.any_eq_false.1 hnf m hm
        exact this (beq_iff_eq.2 e)
      have hlt := step_free_lt c1
      rw [e] at hlt
      have hsub : (l.filter fun m => m.1 != q.1).Sublist l := List.filter_sublist
      by_cases cb : sc < 0 ∧ 16 ≤ q.1 ∧ 16 ≤ q.2
      · have hb := (bring_lack s q.1 q.2 hs).1 cb
        rw [loop_err _ _ _ (by rw [hb]; decide)]
        exact ⟨fun _ => hb, fun h => absurd (.inl ⟨cb.1, q, hq, cb.2⟩) h⟩
      · obtain ⟨i1, i2⟩ := lack_loop h1 n (l.filter fun m => m.1 != q.1) _ (by omega) (hok.sub hsub) ((bring_lack s q.1 q.2 hs).2 cb)
        have iff : Bad sc l ↔ Bad sc (l.filter fun m => m.1 != q.1) := by
          constructor
          · rintro (⟨h, m, hm, h2⟩ | ⟨y, hy, o⟩)
            · refine .inl ⟨h, m, List.mem_filter.2 ⟨hm, ?_⟩, h2⟩
              have : m.1 ≠ q.1 := fun e => by
                have := uniq hok.nd hm hq e
                subst this
                exact cb ⟨h, h2⟩
              simpa using this
            · exact .inr ⟨y, hy, o.free hnf'⟩
          · rintro (⟨h, m, hm, h2⟩ | ⟨y, hy, o⟩)
            · exact .inl ⟨h, m, hsub.subset hm, h2⟩
            · exact .inr ⟨y, hy, o.sub fun m hm => hsub.subset hm⟩
        exact ⟨fun h => i1 (iff.1 h), fun h => i2 (fun h' => h (iff.2 h'))⟩
    · rw [if_neg c1]
      have hff := (free_fold l l (-1) hpos).1 (by decide)
      have hall : ∀ q ∈ l, ∃ k ∈ l, k.2 = q.1 := by
        rcases hff with ⟨_, h⟩ | ⟨q, hq, h, _⟩
        · intro q hq
          obtain ⟨k, hk, e⟩ := List.any_eq_true.1 (h q hq)
          exact ⟨k, hk, beq_iff_eq.1 e⟩
        · have := hpos q hq
          exact absurd (show 0 ≤ freeR l by unfold freeR; omega) c1
      have hne : l ≠ [] := fun h => c0 (.inl (by rw [h]; rfl))
      have hlt := step_circle_lt (l := l) (fun h => c0 (.inl h))
      obtain ⟨hn2, hback, n', hn', hlt', hend, hmem, hcirc, hdist⟩ := circle_facts hok.nd hpos hall (minTo_mem hne)
      obtain ⟨r1, r2⟩ := round_lack h1 (itS l (minTo l)) n' s hs
      rw [← hcirc] at r1 r2
      have hsub := dropAll_sublist (circleR l (minTo l)) l
      have inc : ∀ m, (∃ i ≤ n', m = itS l (minTo l) i) ↔ m ∈ circleR l (minTo l) := fun m => by
        rw [hcirc, circL, List.mem_map]
        constructor
        · rintro ⟨i, hi, rfl⟩; exact ⟨i, List.mem_range.2 (by omega), rfl⟩
        · rintro ⟨i, hi, rfl⟩; exact ⟨i, by have := List.mem_range.1 hi; omega, rfl⟩
      have hclosed : ∀ m ∈ l, m.1 ∈ circleR l (minTo l) → m.2 ∈ circleR l (minTo l) := fun m hm h => by
        obtain ⟨i, hi, e⟩ := (inc _).2 h
        obtain ⟨q, hq, e1, e2⟩ := hmem i
        have := uniq hok.nd hm hq (e.trans e1.symm)
        subst this
        refine (inc _).1 ?_
        by_cases hin : i = n'
        · exact ⟨0, Nat.zero_le _, by rw [e2, hin, hend]; rfl⟩
        · exact ⟨i + 1, by omega, e2⟩
      by_cases cs : ∃ i ≤ n', 16 ≤ itS l (minTo l) i
      · have hb := r1 cs
        rw [loop_err _ _ _ (by rw [hb]; decide)]
        obtain ⟨i, hi, h16⟩ := cs
        refine ⟨fun _ => hb, fun h => absurd (.inr ⟨_, h16, itS l (minTo l), n', hend, fun k _ => ?_, i, hi, rfl⟩) h⟩
        obtain ⟨q, hq, e1, e2⟩ := hmem k
        rw [← e1, ← e2]; exact hq
      · have cs' : ∀ i ≤ n', itS l (minTo l) i < 16 := fun i hi => Int.not_le.1 fun h => cs ⟨i, hi, h⟩
        obtain ⟨i1, i2⟩ := lack_loop h1 n (dropAll l (circleR l (minTo l))) _ (by omega) (hok.sub hsub) (r2 cs')
        have hno : ∀ y, 16 ≤ y → y ∉ circleR l (minTo l) := fun y hy h => by
          obtain ⟨i, hi, e⟩ := (inc _).2 h
          have := cs' i hi
          omega
        have iff : Bad sc l ↔ Bad sc (dropAll l (circleR l (minTo l))) := by
          constructor
          · rintro (⟨h, m, hm, h2⟩ | ⟨y, hy, o⟩)
            · exact .inl ⟨h, m, (dropAll_mem _ _ _).2 ⟨hm, hno _ h2.1⟩, h2⟩
            · exact .inr ⟨y, hy, o.keep hok.nd hclosed (hno y hy)⟩
          · rintro (⟨h, m, hm, h2⟩ | ⟨y, hy, o⟩)
            · exact .inl ⟨h, m, hsub.subset hm, h2⟩
            · exact .inr ⟨y, hy, o.sub fun m hm => hsub.subset hm⟩
        exact ⟨fun h => i1 (iff.1 h), fun h => i2 (fun h' => h (iff.2 h'))⟩

/-- Without spare slots. -/
theorem order_lack {l : List Move} (hok : OkM l) {sc : Int} (h1 : sc = -1 ∨ sc = 15) : (Bad sc (realM l) → (orderR l sc (-1)).2 = 43) ∧ (¬ Bad sc (realM l) → (orderR l sc (-1)).2 = 0) := by
  obtain ⟨i1, i2⟩ := lack_loop h1 (realM l).length (realM l) ([], 0) (Nat.le_refl _) (hok.sub List.filter_sublist) rfl
  have hw := hok.wrong h1 (sp := -1) (.inl rfl)
  unfold orderR
  rw [if_neg (by simp [hw])]
  simp only
  constructor
  · intro h
    have := i1 h
    rw [if_pos (by rw [this]; decide), this]
  · intro h
    have := i2 h
    rw [if_neg (by rw [this]; decide)]
end Go.Ab

/- The reference's circles, plainly. -/
namespace Go.Ab
open Go.Proofs

theorem take_mem {l : List Move} (hn : (l.map (·.1)).Nodup) {q : Move} (hq : q ∈ l) : takeR l q.1 = (q.2, true) := by
  rw [takeR, if_pos (by exact List.any_eq_true.2 ⟨q, hq, beq_self_eq_true _⟩), source_of hn hq]

theorem take_true {l : List Move} (hn : (l.map (·.1)).Nodup) {p : Int} (h : (takeR l p).2 = true) : (takeR l p).1 = sourceR l p ∧ (p, sourceR l p) ∈ l := by
  unfold takeR at h ⊢
  by_cases c : (l.any fun m => m.1 == p) = true
  · rw [if_pos c]
    obtain ⟨q, hq, e⟩ := List.any_eq_true.1 c
    have e := beq_iff_eq.1 e
    subst e
    exact ⟨rfl, by rw [source_of hn hq]; exact hq⟩
  · rw [if_neg c] at h; cases h

theorem circ_snoc (f : Nat → Int) (i : Nat) : circL f i ++ [f (i + 1)] = circL f (i + 1) := by simp [circL, List.range_succ]

theorem arGo_told {l : List Move} (hn : (l.map (·.1)).Nodup) (x : Int) : ∀ (fuel i : Nat), (∀ k ≤ i, 1 ≤ k → x < itS l x k) → (∀ k < i, (itS l x k, itS l x (k + 1)) ∈ l) →
    (arGo l x fuel (circL (itS l x) i) (takeR l (itS l x i)).1 (takeR l (itS l x i)).2).2.2 = true → (arGo l x fuel (circL (itS l x) i) (takeR l (itS l x i)).1 (takeR l (itS l x i)).2).2.1 = x →
    ∃ n, (arGo l x fuel (circL (itS l x) i) (takeR l (itS l x i)).1 (takeR l (itS l x i)).2).1 = circL (itS l x) n ∧ (∀ k ≤ n, 1 ≤ k → x < itS l x k) ∧ (∀ k ≤ n, (itS l x k, itS l x (k + 1)) ∈ l) ∧ itS l x (n + 1) = x
  | 0, i, ha, hb, h1, h2 => by
    simp only [arGo] at h1 h2 ⊢
    obtain ⟨e1, e2⟩ := take_true hn h1
    exact ⟨i, rfl, ha, fun k hk => by
      by_cases e : k = i
      · subst e; exact e2
      · exact hb k (by omega), e1.symm.trans h2⟩
  | fuel + 1, i, ha, hb, h1, h2 => by
    simp only [arGo] at h1 h2 ⊢
    by_cases c : (takeR l (itS l x i)).2 = true ∧ (takeR l (itS l x i)).1 ≠ x ∧ x < (takeR l (itS l x i)).1
    · obtain ⟨e1, e2⟩ := take_true hn c.1
      have e3 : (takeR l (itS l x i)).1 = itS l x (i + 1) := e1
      rw [if_pos c, e3, circ_snoc] at h1 h2 ⊢
      refine arGo_told hn x fuel (i + 1) (fun k hk h => ?_) (fun k hk => ?_) h1 h2
      · by_cases e : k = i + 1
        · subst e; rw [← e3]; exact c.2.2
        · exact ha k (by omega) h
      · by_cases e : k = i
        · subst e; exact e2
        · exact hb k (by omega)
    · rw [if_neg c] at h1 h2 ⊢
      obtain ⟨e1, e2⟩ := take_true hn h1
      exact ⟨i, rfl, ha, fun k hk => by
        by_cases e : k = i
        · subst e; exact e2
        · exact hb k (by omega), e1.symm.trans h2⟩

theorem around_told {l : List Move} (hn : (l.map (·.1)).Nodup) {x : Int} (h : aroundR l x ≠ []) : ∃ n, aroundR l x = circL (itS l x) n ∧ (∀ k ≤ n, 1 ≤ k → x < itS l x k) ∧ (∀ k ≤ n, (itS l x k, itS l x (k + 1)) ∈ l) ∧ itS l x (n + 1) = x := by
  unfold aroundR at h ⊢
  simp only at h ⊢
  by_cases c : (arGo l x l.length [x] (takeR l x).1 (takeR l x).2).2.2 = true ∧ (arGo l x l.length [x] (takeR l x).1 (takeR l x).2).2.1 = x
  · rw [if_pos c]
    exact arGo_told hn x l.length 0 (fun k hk h => by omega) (fun k hk => by omega) c.1 c.2
  · rw [if_neg c] at h; exact absurd rfl h

theorem arGo_eq {l : List Move} (hn : (l.map (·.1)).Nodup) {x : Int} {n : Nat} (hgt : ∀ k ≤ n, 1 ≤ k → x < itS l x k) (hm : ∀ k ≤ n, (itS l x k, itS l x (k + 1)) ∈ l) (hend : itS l x (n + 1) = x) : ∀ (fuel i : Nat), i ≤ n → n ≤ fuel + i →
    arGo l x fuel (circL (itS l x) i) (takeR l (itS l x i)).1 (takeR l (itS l x i)).2 = (circL (itS l x) n, x, true)
  | 0, i, hi, hf => by
    have : i = n := by omega
    subst this
    rw [take_mem hn (hm i (Nat.le_refl _))]
    simp only [arGo, hend]
  | fuel + 1, i, hi, hf => by
    have t := take_mem hn (hm i hi)
    simp only at t
    by_cases c : i = n
    · subst c
      rw [t]
      simp only [arGo, hend]
      rw [if_neg (fun h => h.2.1 rfl)]
    · have hx := hgt (i + 1) (by omega) (by omega)
      rw [t]
      simp only [arGo]
      rw [if_pos ⟨trivial, by omega, hx⟩, circ_snoc]
      exact arGo_eq hn hgt hm hend fuel (i + 1) (by omega) (by omega)

theorem around_eq {l : List Move} (hn : (l.map (·.1)).Nodup) {x : Int} {n : Nat} (hgt : ∀ k ≤ n, 1 ≤ k → x < itS l x k) (hm : ∀ k ≤ n, (itS l x k, itS l x (k + 1)) ∈ l) (hend : itS l x (n + 1) = x) (hl : n ≤ l.length) : aroundR l x = circL (itS l x) n := by
  have h := arGo_eq hn hgt hm hend l.length 0 (Nat.zero_le _) (by omega)
  unfold aroundR
  simp only
  change arGo l x l.length [x] (takeR l x).1 (takeR l x).2 = _ at h
  rw [h, if_pos ⟨rfl, rfl⟩]

theorem its_add {l : List Move} {x : Int} {n : Nat} (h : itS l x n = x) : ∀ k, itS l x (k + n) = itS l x k
  | 0 => by rw [Nat.zero_add, h]; rfl
  | k + 1 => by
    rw [show k + 1 + n = (k + n) + 1 by omega, itS, its_add h k]; rfl

theorem its_mod {l : List Move} {x : Int} {n : Nat} (h : itS l x n = x) (h0 : 0 < n) (k : Nat) : itS l x k = itS l x (k % n) := by
  induction k using Nat.strongRecOn with
  | _ k ih =>
    by_cases c : k < n
    · rw [Nat.mod_eq_of_lt c]
    · have e : k = (k - n) + n := by omega
      rw [e, its_add h, Nat.add_mod_right]
      exact ih _ (by omega)

/-- A walk's least place. -/
theorem least_on (f : Nat → Int) : ∀ n : Nat, ∃ a ≤ n, ∀ i ≤ n, f a ≤ f i
  | 0 => ⟨0, Nat.le_refl _, fun i hi => by
      have : i = 0 := by omega
      subst this
      exact Int.le_refl _⟩
  | n + 1 => by
    obtain ⟨a, ha, h⟩ := least_on f n
    by_cases c : f a ≤ f (n + 1)
    · exact ⟨a, by omega, fun i hi => by
        by_cases e : i = n + 1
        · subst e; exact c
        · exact h i (by omega)⟩
    · exact ⟨n + 1, Nat.le_refl _, fun i hi => by
        by_cases e : i = n + 1
        · subst e; exact Int.le_refl _
        · have := h i (by omega); omega⟩

/-- **The reference's circles hold just what lies on closed ways of moves that are moves.** -/
theorem circles_on {l : List Move} (hok : OkM l) (y : Int) : (∃ c ∈ circR l, y ∈ c) ↔ OnC (realM l) y := by
  constructor
  · rintro ⟨c, hc, hy⟩
    obtain ⟨hc1, hc2⟩ := List.mem_filter.1 hc
    obtain ⟨q, hq, rfl⟩ := List.mem_map.1 hc1
    have h1 : 1 < (aroundR l q.1).length := by unfold long at hc2; simpa using hc2
    obtain ⟨n, e, hgt, hm, hend⟩ := around_told hok.nd (x := q.1) (fun h => by rw [h] at h1; simp at h1)
    rw [e] at h1 hy
    have hn : 1 ≤ n := by simp [circL] at h1; omega
    obtain ⟨j, hj, rfl⟩ := List.mem_map.1 hy
    refine ⟨itS l q.1, n, hend, fun i hi => List.mem_filter.2 ⟨hm i hi, ?_⟩, j, by have := List.mem_range.1 hj; omega, rfl⟩
    have : itS l q.1 i ≠ itS l q.1 (i + 1) := fun h => by
      have stay : ∀ d, itS l q.1 (i + d) = itS l q.1 i := fun d => by
        induction d with
        | zero => rfl
        | succ d ih => rw [← Nat.add_assoc, itS, ih]; exact h.symm
      have e1 := stay (n + 1 - i)
      rw [show i + (n + 1 - i) = n + 1 by omega, hend] at e1
      by_cases i0 : i = 0
      · subst i0
        have := hgt 1 hn (Nat.le_refl _)
        have h2 := stay 1
        rw [Nat.zero_add] at h2
        rw [h2, ← e1] at this
        omega
      · have := hgt i hi (by omega)
        omega
    simpa using this
  · rintro ⟨f, n, hcl, hm, j, hj, rfl⟩
    obtain ⟨a, ha, hmin⟩ := least_on f n
    -- the way, round and round
    obtain ⟨F, hF⟩ : ∃ F : Nat → Int, F = fun k => f (k % (n + 1)) := ⟨_, rfl⟩
    have hFm : ∀ k, (F k, F (k + 1)) ∈ realM l := fun k => by
      have h1 : k % (n + 1) < n + 1 := Nat.mod_lt k (Nat.succ_pos n)
      have e : F (k + 1) = f (k % (n + 1) + 1) := by
        rw [hF]
        show f ((k + 1) % (n + 1)) = _
        by_cases c : k % (n + 1) + 1 < n + 1
        · rw [Nat.add_mod, Nat.mod_eq_of_lt (a := 1) (by omega), Nat.mod_eq_of_lt c]
        · have c' : k % (n + 1) = n := by omega
          rw [c', hcl, Nat.add_mod, c']
          by_cases n0 : n = 0
          · subst n0; simp
          · rw [Nat.mod_eq_of_lt (a := 1) (by omega), Nat.mod_self]
      rw [e, hF]
      exact hm _ (by omega)
    have hFl : ∀ k, (F k, F (k + 1)) ∈ l := fun k => (List.mem_filter.1 (hFm k)).1
    have hFmin : ∀ k, f a ≤ F k := fun k => by
      rw [hF]; exact hmin _ (by have h : k % (n + 1) < n + 1 := Nat.mod_lt k (Nat.succ_pos n); omega)
    have hFf : ∀ i ≤ n, F i = f i := fun i hi => by rw [hF]; show f (i % (n + 1)) = f i; rw [Nat.mod_eq_of_lt (by omega)]
    have hFp : ∀ k, F (k + (n + 1)) = F k := fun k => by rw [hF]; show f ((k + (n + 1)) % (n + 1)) = _; rw [Nat.add_mod_right]
    have hit : ∀ i, itS l (f a) i = F (a + i) := fun i => by
      induction i with
      | zero => rw [Nat.add_zero, hFf a ha]; rfl
      | succ i ih => rw [itS, ih, ← Nat.add_assoc]; exact source_of hok.nd (hFl (a + i))
    have hper : itS l (f a) (n + 1) = f a := by rw [hit, hFp, hFf a ha]
    obtain ⟨n1, hn1, hleast⟩ := Go.Ab.least (fun k => itS l (f a) (k + 1) = f a) ⟨n, hper⟩
    have hgt : ∀ k ≤ n1, 1 ≤ k → f a < itS l (f a) k := fun k hk h1 => by
      have h2 : f a ≤ itS l (f a) k := by rw [hit]; exact hFmin _
      have h3 : itS l (f a) k ≠ f a := fun e => by
        have := hleast (k - 1) (by rw [Nat.sub_add_cancel h1]; exact e)
        omega
      omega
    have hmm : ∀ k, (itS l (f a) k, itS l (f a) (k + 1)) ∈ l := fun k => by
      rw [hit, hit, ← Nat.add_assoc]; exact hFl _
    have hn1l : n1 ≤ l.length := by
      have hback : ∀ i d, itS l (f a) i = itS l (f a) (i + (d + 1)) → i + (d + 1) ≤ n1 → False := fun i d e h => by
        -- what comes back sooner would come back to the beginning
        have key : ∀ t, itS l (f a) (i + t) = itS l (f a) (i + (d + 1) + t) := fun t => by
          induction t with
          | zero => exact e
          | succ t ih => rw [← Nat.add_assoc, ← Nat.add_assoc, itS, ih]; rfl
        have h1 := key (n1 + 1 - (i + (d + 1)))
        rw [show i + (d + 1) + (n1 + 1 - (i + (d + 1))) = n1 + 1 by omega, hn1] at h1
        have := hgt (i + (n1 + 1 - (i + (d + 1)))) (by omega) (by omega)
        omega
      have hnd : ((List.range (n1 + 1)).map (itS l (f a))).Nodup := by
        rw [List.Nodup, List.pairwise_map, List.pairwise_iff_getElem]
        intro i j hi hj hij
        simp only [List.getElem_range]
        simp at hi hj
        intro e
        obtain ⟨d, rfl⟩ : ∃ d, j = i + (d + 1) := ⟨j - i - 1, by omega⟩
        exact hback i d e (by omega)
      have := nodup_len hnd (b := l.map (·.1)) (fun y hy => by
        obtain ⟨i, _, e⟩ := List.mem_map.1 hy
        rw [← e]; exact List.mem_map.2 ⟨_, hmm i, rfl⟩)
      simp at this
      omega
    have e := around_eq hok.nd hgt (fun k _ => hmm k) hn1 hn1l
    have hn10 : n1 ≠ 0 := fun h => by
      subst h
      have := (List.mem_filter.1 (hFm a)).2
      rw [← hit 1, hn1, hFf a ha] at this
      simp at this
    refine ⟨aroundR l (f a), List.mem_filter.2 ⟨List.mem_map.2 ⟨_, hmm 0, rfl⟩, ?_⟩, ?_⟩
    · rw [e]; unfold long; simp [circL]; omega
    · rw [e]
      have hy : f j = itS l (f a) (j + (n + 1) - a) := by
        rw [hit, show a + (j + (n + 1) - a) = j + (n + 1) by omega, hFp, hFf j hj]
      rw [hy, its_mod hn1 (by omega)]
      refine List.mem_map.2 ⟨_, List.mem_range.2 ?_, rfl⟩
      exact Nat.mod_lt _ (by omega)
end Go.Ab

/- MovesLacks. -/
namespace Go.Ab
open Go.Proofs

def lackB (m : Move) : Bool := decide (16 ≤ m.1) && decide (16 ≤ m.2) && m.1 != m.2
def slotC (c : List Int) : Bool := c.any fun p => decide (16 ≤ p)

theorem order17e_ct (yl : Nat) (fl : Bool) (l : List Move) (sc sp : Int) (hl : l.length ≤ 24) (h4 : -9223372036854775808 ≤ sp) :
    CT Try.prog (Cx.plain yl) noAr 17 [vM fl l, .int .i64 sc, .int .i64 sp] [] (fun o H => ∃ A e, A = (orderR l sc sp).1 ∧ e = (orderR l sc sp).2 ∧ o = .ret (.tuple [vK false A, .int .i64 e]) ∧ H = []) := by
  have h := order17_ct yl fl l sc sp hl h4
  exact ⟨h.1, fun G w vs hc s r => CallsIn.mono (h.2 G w vs hc s r) (fun e w' ⟨G', x, H', a, b, c, d, e'⟩ => ⟨G', x, H', a, b, c, _, _, rfl, rfl, d, e'⟩)⟩

theorem any_take' {α : Type} (f : α → Bool) (l : List α) (d : α) {i : Nat} (h : i < l.length) : (l.take (i + 1)).any f = ((l.take i).any f || f (l.getD i d)) := by
  rw [List.take_add_one, List.any_append, List.getElem?_eq_getElem h, List.getD_eq_getElem?_getD, List.getElem?_eq_getElem h]
  simp

theorem lack_bool {l : List Move} (hok : OkM l) {cs : List (List Int)} (hp : cs.Perm (circR l)) :
    (orderR l (-1) (-1)).2 = (if (l.any lackB || cs.any slotC) = true then 43 else 0) ∧ (orderR l 15 (-1)).2 = (if cs.any slotC = true then 43 else 0) := by
  have hc : cs.any slotC = true ↔ ∃ y, 16 ≤ y ∧ OnC (realM l) y := by
    rw [List.any_eq_true]
    constructor
    · rintro ⟨c, hc, h⟩
      obtain ⟨y, hy, h2⟩ := List.any_eq_true.1 h
      exact ⟨y, by simpa using h2, (circles_on hok y).1 ⟨c, hp.mem_iff.1 hc, hy⟩⟩
    · rintro ⟨y, hy, o⟩
      obtain ⟨c, hc, h⟩ := (circles_on hok y).2 o
      exact ⟨c, hp.mem_iff.2 hc, List.any_eq_true.2 ⟨y, h, by simpa using hy⟩⟩
  have hl : l.any lackB = true ↔ ∃ m ∈ realM l, 16 ≤ m.1 ∧ 16 ≤ m.2 := by
    rw [List.any_eq_true]
    constructor
    · rintro ⟨m, hm, h⟩
      unfold lackB at h
      simp only [Bool.and_eq_true, decide_eq_true_eq] at h
      exact ⟨m, List.mem_filter.2 ⟨hm, h.2⟩, h.1⟩
    · rintro ⟨m, hm, h1, h2⟩
      obtain ⟨a, b⟩ := List.mem_filter.1 hm
      exact ⟨m, a, by unfold lackB; simp only [Bool.and_eq_true, decide_eq_true_eq]; exact ⟨⟨h1, h2⟩, b⟩⟩
  obtain ⟨a1, a2⟩ := order_lack hok (sc := -1) (.inl rfl)
  obtain ⟨b1, b2⟩ := order_lack hok (sc := 15) (.inr rfl)
  constructor
  · split
    · next h =>
      refine a1 ?_
      rcases Bool.or_eq_true_iff.1 h with h | h
      · exact .inl ⟨by decide, hl.1 h⟩
      · exact .inr (hc.1 h)
    · next h =>
      refine a2 fun hb => h (Bool.or_eq_true_iff.2 ?_)
      rcases hb with ⟨_, h⟩ | h
      · exact .inl (hl.2 h)
      · exact .inr (hc.2 h)
  · split
    · next h => exact b1 (.inr (hc.1 h))
    · next h =>
      refine b2 fun hb => h ?_
      rcases hb with ⟨h, _⟩ | h
      · exact absurd h (by decide)
      · exact hc.2 h

theorem circR_len (l : List Move) : (circR l).length ≤ l.length := Nat.le_trans (List.length_filter_le _ _) (by rw [List.length_map]; exact Nat.le_refl _)

theorem circ_len_of {l : List Move} (hok : OkM l) {c : List Int} (hc : c ∈ circR l) : c.length ≤ l.length + 1 := by
  obtain ⟨q, hq, rfl⟩ := List.mem_map.1 (List.mem_filter.1 hc).1
  have go : ∀ (x : Int) (n : Nat) (out : List Int) (p : Int) (is : Bool), (arGo l x n out p is).1.length ≤ out.length + n := by
    intro x n
    induction n with
    | zero => intro out p is; exact Nat.le_refl _
    | succ n ih =>
      intro out p is
      simp only [arGo]
      split
      · have := ih (out ++ [p]) (takeR l p).1 (takeR l p).2
        simp at this ⊢; omega
      · simp
  have := go q.1 l.length [q.1] (takeR l q.1).1 (takeR l q.1).2
  unfold aroundR
  simp only
  split
  · simp at this; omega
  · simp

def tr6 : Nat → DT := fun _ => (.take 0 (.take 1 (.take 2 (.take 3 (.take 4 (.take 5 (.alt 6 (.take 7 (.take 8 (.take 9 (.take 10 (.take 11 (.take 12 (.alt 13 (.take 14 (.take 15 (.take 16 (.take 17 (.take 18 (.take 19 (.take 20 (.take 22 (.take 23 (.take 24 (.take 25 (.alt 21 (.alt 26 (.take 27 (.take 28 (.take 29 (.take 30 .done)))) .stop) (.alt 26 (.alt 21 (.take 27 (.take 28 (.take 29 (.take 30 .done)))) .stop) .stop))))))))))))) .stop))))))) .stop)))))))

set_option maxHeartbeats 8000000 in
theorem lacks_ct (yl : Nat) (fs : Bool) (s : List Int) : CT Try.prog (Cx.plain yl) noAr 6 [vI fs s] [] (fun o H => o = .ret (.bool true) ∧ H = []) := by
  obtain ⟨decN, _⟩ := decL_ex
  refine CT_of_W (tab := tabN decN) (D := []) (tr := tr6) Try.func6 (by kernel_rfl) rfl (tabN_ok decN) (Cx.plain_ok _ _) (by kernel_rfl) (fun z S R hz hS hR => ?_)
  cbv
  refine use_ct [] hS (Cx.plain_ok _ _) rfl (fun yl => awake_ct yl) (may_none []) ?_
  rintro o h' ⟨rfl, rfl⟩
  cbv
  refine use_ct [] hS (Cx.plain_ok _ _) rfl (fun yl => made_ct yl fs s) (may_none []) ?_
  rintro o h' ⟨l, hl, rfl, rfl⟩
  have hll : l.length ≤ 24 := by
    have := madeTo_len s (min s.length 20)
    rw [hl]; unfold madeR; omega
  have hok : OkM l := by rw [hl]; exact made_ok s
  clear hl
  cbv
  refine tri_loop hS (Cx.plain_ok _ _) (Nat.zero_le _) (fun m env H => ∃ (i : Nat) (lk : Bool), i ≤ l.length ∧ m = l.length - i ∧ lk = (l.take i).any lackB ∧
      env = mkE 124 [(3, .bool true), (4, vM false l), (5, .bool lk), (6, .int .i64 i)] ∧ H = []) l.length
    (.keep [3, 4, 5, 6]) (Nat.zero_le _) ⟨0, false, Nat.zero_le _, rfl, rfl, rfl, rfl⟩ ?_
  rintro m env H ⟨i, lk, hi, rfl, hlk, rfl, rfl⟩ hh
  refine T_of_W (tab := tabN decN) (D := []) (tr := tr6) (tabN_ok decN) (Cx.plain_ok _ _) (by kernel_rfl) hh (fun z' S' Q' hz' hS' hQ => ?_)
  cbv
  rcases h1 : z' .lt (Int.ofNat i) (S' .len (Int × Int) l) with _ | _
  · have e : l.take i = l := by
      rw [hz', hS'] at h1
      have : ¬ (i : Int) < (l.length : Int) := of_decide_eq_false h1
      exact List.take_of_length_le (by omega)
    rw [e] at hlk
    cbv
    apply hQ
    clear hQ
    cbv
    refine use_ct [] hS (Cx.plain_ok _ _) rfl (fun yl => circlesR_ct yl false l (by omega) hok.nd) (may_none []) ?_
    rintro o h' ⟨cs, hcs, rfl, rfl⟩
    have hcl : cs.length ≤ 24 := by rw [hcs.length_eq]; exact Nat.le_trans (circR_len l) hll
    have hcc : ∀ c ∈ cs, c.length ≤ 25 := fun c hc => Nat.le_trans (circ_len_of hok (hcs.mem_iff.1 hc)) (by omega)
    cbv
    refine tri_loop hS (Cx.plain_ok _ _) (Nat.zero_le _) (fun m env H => ∃ (i : Nat) (rd : Bool), i ≤ cs.length ∧ m = cs.length - i ∧ rd = (cs.take i).any slotC ∧
        env = mkE 124 [(3, .bool true), (4, vM false l), (5, .bool lk), (7, vL false cs), (8, .bool rd), (9, .int .i64 i)] ∧ H = []) cs.length
      (.keep [3, 4, 5, 7, 8, 9]) (Nat.zero_le _) ⟨0, false, Nat.zero_le _, rfl, rfl, rfl, rfl⟩ ?_
    rintro m env H ⟨i2, rd, hi2, rfl, hrd, rfl, rfl⟩ hh
    refine T_of_W (tab := tabN decN) (D := []) (tr := tr6) (tabN_ok decN) (Cx.plain_ok _ _) (by kernel_rfl) hh (fun z2 S2 Q2 hz2 hS2 hQ2 => ?_)
    cbv
    rcases h2 : z2 .lt (Int.ofNat i2) (S2 .len (List Int) cs) with _ | _
    · have e : cs.take i2 = cs := by
        rw [hz2, hS2] at h2
        have : ¬ (i2 : Int) < (cs.length : Int) := of_decide_eq_false h2
        exact List.take_of_length_le (by omega)
      rw [e] at hrd
      obtain ⟨g1, g2⟩ := lack_bool hok hcs
      rw [← hlk, ← hrd] at g1
      rw [← hrd] at g2
      cbv
      apply hQ2
      clear hQ2
      cbv
      refine use_ct [] hS (Cx.plain_ok _ _) rfl (fun yl => order17e_ct yl false l (-1) (-1) hll (by decide)) (may_none []) ?_
      rintro o h' ⟨A1, e1, _, he1, rfl, rfl⟩
      cbv
      refine use_ct [] hS (Cx.plain_ok _ _) rfl (fun yl => order17e_ct yl false l 15 (-1) hll (by decide)) (may_none []) ?_
      rintro o h' ⟨A2, e2, _, he2, rfl, rfl⟩
      rw [← he1] at g1
      rw [← he2] at g2
      clear he1 he2
      have fin : ∀ H, R [.bool true] H := fun H => hR _ _ _ _ (.drop 0 rfl (Nat.zero_le _)) ⟨rfl, by cases H <;> rfl⟩
      have q1 : z .eq 43 43 = true := by rw [hz]; rfl
      have q2 : z .eq 0 43 = false := by rw [hz]; rfl
      have q3 : z .eq 0 0 = true := by rw [hz]; rfl
      have q4 : z .eq 43 0 = false := by rw [hz]; rfl
      cases lk <;> cases rd
      · have g1 : e1 = 0 := g1
        have g2 : e2 = 0 := g2
        subst g1 g2
        cbv
        repeat (first | (rw [q1]; cbv) | (rw [q2]; cbv) | (rw [q3]; cbv) | (rw [q4]; cbv))
        exact fin _
      · have g1 : e1 = 43 := g1
        have g2 : e2 = 43 := g2
        subst g1 g2
        cbv
        repeat (first | (rw [q1]; cbv) | (rw [q2]; cbv) | (rw [q3]; cbv) | (rw [q4]; cbv))
        exact fin _
      · have g1 : e1 = 43 := g1
        have g2 : e2 = 0 := g2
        subst g1 g2
        cbv
        repeat (first | (rw [q1]; cbv) | (rw [q2]; cbv) | (rw [q3]; cbv) | (rw [q4]; cbv))
        exact fin _
      · have g1 : e1 = 43 := g1
        have g2 : e2 = 43 := g2
        subst g1 g2
        cbv
        repeat (first | (rw [q1]; cbv) | (rw [q2]; cbv) | (rw [q3]; cbv) | (rw [q4]; cbv))
        exact fin _
    · have hlt : i2 < cs.length := by
        rw [hz2, hS2] at h2
        have : (i2 : Int) < (cs.length : Int) := of_decide_eq_true h2
        omega
      have einc : z2 .ar .add .i64 (Int.ofNat i2) 1 = Int.ofNat (i2 + 1) := by rw [hz2]; exact rz_inc i2 (by omega)
      obtain ⟨c, hc⟩ : ∃ c, c = cs.getD i2 [] := ⟨_, rfl⟩
      have hst := any_take' slotC cs [] hlt
      rw [← hc, ← hrd] at hst
      have hcl2 : c.length ≤ 25 := hcc c (by rw [hc, List.getD_eq_getElem?_getD, List.getElem?_eq_getElem hlt]; exact List.getElem_mem _)
      cbv
      refine tri_loop hS2 (Cx.plain_ok _ _) (Nat.zero_le _) (fun m env H => ∃ (k : Nat) (r : Bool), k ≤ c.length ∧ m = c.length - k ∧ r = (rd || (c.take k).any fun p => decide (16 ≤ p)) ∧
          env = mkE 124 [(3, .bool true), (4, vM false l), (5, .bool lk), (7, vL false cs), (8, .bool r), (9, .int .i64 (Int.ofNat i2)), (10, .int .i64 k)] ∧ H = []) c.length
        (.keep [3, 4, 5, 7, 8, 9, 10]) (Nat.zero_le _) ⟨0, rd, Nat.zero_le _, rfl, (by simp), rfl, rfl⟩ ?_
      rintro m env H ⟨k, r, hk, rfl, hr, rfl, rfl⟩ hh
      refine T_of_W (tab := tabN decN) (D := []) (tr := tr6) (tabN_ok decN) (Cx.plain_ok _ _) (by kernel_rfl) hh (fun z3 S3 Q3 hz3 hS3 hQ3 => ?_)
      have eatc : S3 .at_ (List Int) [] cs (z3 .nat (Int.ofNat i2)) = c := by rw [hS3, hz3, hc]; rfl
      have hidc : S3 .idx (List Int) cs (Int.ofNat i2) := by rw [hS3]; simp [reals]; omega
      cbv
      refine ⟨hidc, ?_⟩
      rw [eatc]
      cbv
      rcases h3 : z3 .lt (Int.ofNat k) (S3 .len Int c) with _ | _
      · have e : c.take k = c := by
          rw [hz3, hS3] at h3
          have : ¬ (k : Int) < (c.length : Int) := of_decide_eq_false h3
          exact List.take_of_length_le (by omega)
        rw [e] at hr
        cbv
        apply hQ3
        cbv
        apply hQ2
        rw [einc]
        exact ⟨_, _, _, by omega, .keep [3, 4, 5, 7, 8, 9], i2 + 1, r, hlt, rfl, by rw [hst, hr]; rfl, rfl, rfl⟩
      · have hltk : k < c.length := by
          rw [hz3, hS3] at h3
          have : (k : Int) < (c.length : Int) := of_decide_eq_true h3
          omega
        have einck : z3 .ar .add .i64 (Int.ofNat k) 1 = Int.ofNat (k + 1) := by rw [hz3]; exact rz_inc k (by omega)
        have hidk : S3 .idx Int c (Int.ofNat k) := by rw [hS3]; simp [reals]; omega
        have hstk := any_take' (fun p : Int => decide (16 ≤ p)) c 0 hltk
        have eatk : S3 .at_ Int 0 c (z3 .nat (Int.ofNat k)) = c.getD k 0 := by rw [hS3, hz3]; rfl
        have hge : z3 .le 16 (c.getD k 0) = decide (16 ≤ c.getD k 0) := by rw [hz3]; rfl
        have fin : ∀ env' r', r' = (rd || (c.take (k + 1)).any fun p => decide (16 ≤ p)) → keepE [3, 4, 5, 7, 8, 9, 10] env' = mkE 124 [(3, .bool true), (4, vM false l), (5, .bool lk), (7, vL false cs), (8, .bool r'), (9, .int .i64 (Int.ofNat i2)), (10, .int .i64 (Int.ofNat (k + 1)))] → Q3 .norm env' [] := fun env' r' h he => by
          apply hQ3
          exact ⟨_, _, _, by omega, .keep [3, 4, 5, 7, 8, 9, 10], k + 1, r', hltk, rfl, h, he, rfl⟩
        have hr2 : ∀ b : Bool, (b = decide (16 ≤ c.getD k 0)) → (rd || (c.take (k + 1)).any fun p => decide (16 ≤ p)) = (r || b) := fun b hb => by
          rw [hstk, hr, hb, Bool.or_assoc]
        clear hQ3 hQ2 hR
        generalize c.getD k 0 = v at eatk hge hr2
        cases r with
        | true =>
          cbv
          rw [einck]
          exact fin _ true (by rw [hr2 _ rfl]; rfl) rfl
        | false =>
          cbv
          refine ⟨hidc, ?_⟩
          rw [eatc]
          cbv
          refine ⟨hidk, ?_⟩
          rw [eatk]
          cbv
          rw [einck]
          exact fin _ _ (by rw [hr2 _ rfl, hge]; rfl) rfl
  · have hlt : i < l.length := by
      rw [hz', hS'] at h1
      have : (i : Int) < (l.length : Int) := of_decide_eq_true h1
      omega
    have einc : z' .ar .add .i64 (Int.ofNat i) 1 = Int.ofNat (i + 1) := by rw [hz']; exact rz_inc i (by omega)
    have eat : S' .at_ (Int × Int) (0, 0) l (z' .nat (Int.ofNat i)) = l.getD i (0, 0) := by rw [hS', hz']; rfl
    have hidx : S' .idx (Int × Int) l (Int.ofNat i) := by rw [hS']; simp [reals]; omega
    have hdrw : ∀ H, S' .drw H := fun H => by rw [hS']; exact ⟨rfl, by kernel_rfl⟩
    have hst := any_take' lackB l (0, 0) hlt
    rw [← hlk] at hst
    generalize l.getD i (0, 0) = q at hst eat
    obtain ⟨to, frm⟩ := q
    have fin : ∀ env' lk', lk' = (l.take (i + 1)).any lackB → keepE [3, 4, 5, 6] env' = mkE 124 [(3, .bool true), (4, vM false l), (5, .bool lk'), (6, .int .i64 (Int.ofNat (i + 1)))] →
        Q' .norm env' [] := fun env' lk' h he => by
      apply hQ
      exact ⟨_, _, _, by omega, .keep [3, 4, 5, 6], i + 1, lk', hlt, rfl, h, he, rfl⟩
    clear hQ hR
    have w1 : z' .le 16 to = decide (16 ≤ to) := by rw [hz']; rfl
    have w2 : z' .le 16 frm = decide (16 ≤ frm) := by rw [hz']; rfl
    have w3 : z' .ne to frm = (to != frm) := by rw [hz']; rfl
    have hst2 : (l.take (i + 1)).any lackB = (lk || (decide (16 ≤ to) && decide (16 ≤ frm) && to != frm)) := hst
    clear hst
    generalize decide (16 ≤ to) = d1 at w1 hst2
    generalize decide (16 ≤ frm) = d2 at w2 hst2
    generalize (to != frm) = d3 at w3 hst2
    refine ⟨hdrw _, ?_⟩
    cbv
    cases lk with
    | true =>
      cbv
      repeat' first
        | exact trivial
        | exact hidx
        | refine And.intro ?_ ?_
        | (rw [einc]; exact fin _ true (by rw [hst2]; rfl) rfl)
        | fail
    | false =>
      cases d1 <;> cases d2 <;> cases d3
      all_goals
        cbv
        repeat' first
          | exact trivial
          | exact hidx
          | refine And.intro ?_ ?_
          | (rw [eat]; cbv)
          | (rw [w1]; cbv)
          | (rw [w2]; cbv)
          | (rw [w3]; cbv)
          | (rw [einc]; exact fin _ _ (by rw [hst2]; rfl) rfl)
          | fail
end Go.Ab
