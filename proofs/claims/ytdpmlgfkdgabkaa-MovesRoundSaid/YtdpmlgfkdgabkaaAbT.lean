/- Contracts of the program's functions over an abstract state, and what they rest on: part AbT. No condition. -/
import Derived.Test.YtdpmlgfkdgabkaaAbS
import Derived.Test.YtdpmlgfkdgabkaaAbI
set_option linter.unusedVariables false
set_option linter.unusedSimpArgs false

/- What an order does, one by one. -/
namespace Go.Ab
open Go.Proofs

def itS (l : List Move) (x : Int) : Nat → Int
  | 0 => x
  | n + 1 => sourceR l (itS l x n)

theorem circle_facts {l : List Move} (hn : (l.map (·.1)).Nodup) (hpos : ∀ q ∈ l, 0 ≤ q.1) (hall : ∀ q ∈ l, ∃ k ∈ l, k.2 = q.1) {x : Int} (hx : ∃ q ∈ l, q.1 = x) : (l.map (·.2)).Nodup ∧ (∀ q ∈ l, ∃ k ∈ l, k.1 = q.2) ∧ ∃ n, n + 1 ≤ l.length ∧ (∀ i, i < n → itS l x (i + 1) ≠ x) ∧ itS l x (n + 1) = x ∧
    (∀ i, ∃ q ∈ l, q.1 = itS l x i ∧ q.2 = itS l x (i + 1)) ∧ circleR l x = circL (itS l x) n ∧ ∀ i j, i < j → j ≤ n → itS l x i ≠ itS l x j := by
  have hp := nodup_perm hn (b := l.map (·.2)) (fun x hx => by
    obtain ⟨q, hq, e⟩ := List.mem_map.1 hx
    obtain ⟨k, hk, e2⟩ := hall q hq
    exact List.mem_map.2 ⟨k, hk, e2.trans e⟩) (by simp)
  have hn2 := hp.nodup_iff.1 hn
  have hback : ∀ q ∈ l, ∃ k ∈ l, k.1 = q.2 := fun q hq => by
    have : q.2 ∈ l.map (·.1) := hp.mem_iff.2 (List.mem_map.2 ⟨q, hq, rfl⟩)
    obtain ⟨k, hk, e⟩ := List.mem_map.1 this
    exact ⟨k, hk, e⟩
  have hmem : ∀ i, ∃ q ∈ l, q.1 = itS l x i := fun i => by
    induction i with
    | zero => exact hx
    | succ i ih =>
      obtain ⟨q, hq, e⟩ := ih
      rw [itS, ← e, source_of hn hq]
      exact hback q hq
  have hmem2 : ∀ i, ∃ q ∈ l, q.1 = itS l x i ∧ q.2 = itS l x (i + 1) := fun i => by
    obtain ⟨q, hq, e⟩ := hmem i
    exact ⟨q, hq, e, by rw [itS, ← e, source_of hn hq]⟩
  have hinj : ∀ a b, (∃ q ∈ l, q.1 = a) → (∃ q ∈ l, q.1 = b) → sourceR l a = sourceR l b → a = b := fun a b ⟨p, hp, e1⟩ ⟨q, hq, e2⟩ h => by
    subst e1 e2
    rw [source_of hn hp, source_of hn hq] at h
    rw [uniq2 hn2 hp hq h]
  have back : ∀ i d, itS l x i = itS l x (i + d) → itS l x d = x := fun i => by
    induction i with
    | zero => intro d h; rw [Nat.zero_add] at h; exact h.symm
    | succ i ih =>
      intro d h
      have e : i + 1 + d = (i + d) + 1 := by omega
      rw [e, itS, itS] at h
      exact ih d (hinj _ _ (hmem i) (hmem (i + d)) h)
  have hcol : ∃ i j, i < j ∧ j ≤ l.length ∧ itS l x i = itS l x j := by
    refine Classical.byContradiction fun hno => ?_
    have hnd : ((List.range (l.length + 1)).map (itS l x)).Nodup := by
      rw [List.Nodup, List.pairwise_map, List.pairwise_iff_getElem]
      intro i j hi hj hij
      simp only [List.getElem_range]
      simp at hi hj
      exact fun e => hno ⟨i, j, hij, by omega, e⟩
    have := nodup_len hnd (b := l.map (·.1)) (fun y hy => by obtain ⟨i, _, e⟩ := List.mem_map.1 hy; rw [← e]; exact List.mem_map.2 (hmem i))
    simp at this
    omega
  obtain ⟨i, j, hij, hj, e⟩ := hcol
  obtain ⟨d, rfl⟩ : ∃ d, j = i + (d + 1) := ⟨j - i - 1, by omega⟩
  have hd := back i (d + 1) e
  obtain ⟨n, hn', hmin⟩ := Go.Ab.least (fun n => itS l x (n + 1) = x) ⟨d, hd⟩
  have hnd : n ≤ d := hmin d hd
  have hlt : ∀ i, i < n → itS l x (i + 1) ≠ x := fun i hi e => by
    have := hmin i e
    omega
  refine ⟨hn2, hback, n, by omega, hlt, hn', hmem2, ?_, fun i j hij hj e => ?_⟩
  · have hpos' : ∀ i, 0 ≤ itS l x i := fun i => by
      obtain ⟨q, hq, e⟩ := hmem i
      rw [← e]; exact hpos q hq
    have := circGo_eq l x (itS l x) n (fun _ _ => rfl) hpos' hlt hn' n 0 (by omega) (Nat.zero_le _) l.length (by omega)
    rw [circleR]
    exact this
  · obtain ⟨d, rfl⟩ : ∃ d, j = i + (d + 1) := ⟨j - i - 1, by omega⟩
    exact hlt d (by omega) (back i (d + 1) e)

/-! ### States -/
theorem atR_put {p : List Int} (hp : p.length = 40) {n : Int} (v : Int) (h : 0 ≤ n ∧ n < 40) (k : Int) : atR (putR p n v) k = if k = n then v else atR p k := by
  unfold atR
  rw [putR_len, hp]
  by_cases hk : k < 0 ∨ ((40 : Nat) : Int) ≤ k
  · rw [if_pos hk, if_neg (by omega), if_pos hk]
  · rw [if_neg hk, if_neg hk, putR_getD]
    by_cases e : k = n
    · rw [if_pos e, if_pos ⟨by omega, by omega⟩]
    · rw [if_neg e, if_neg (fun h' => e (by omega))]

theorem slot_of {n : Int} (h : 16 ≤ n ∧ n < 40) : slotR (n - 16) = n := by
  rw [slotR, if_neg (by omega)]
  show IntKind.wrap .i64 (16 + IntKind.wrap .i64 (n - 16)) = n
  rw [wrap_small (n := n - 16) (by omega) (by omega), wrap_small (by omega) (by omega)]; omega

theorem reg_of {n : Int} (h : 0 ≤ n ∧ n < 16) : regI n = n := by rw [regI, if_neg (by omega)]

theorem do_mov (p : List Int) {a b : Int} (ha : 0 ≤ a ∧ a < 16) (hb : 0 ≤ b ∧ b < 16) : doS regI p (movM a b) = putR p a (atR p b) := by
  show putR p (regI a) (atR p (regI b)) = _
  rw [reg_of ha, reg_of hb]
theorem do_load (p : List Int) {a b : Int} (ha : 0 ≤ a ∧ a < 16) (hb : 16 ≤ b ∧ b < 40) : doS regI p (loadM a b) = putR p a (atR p b) := by
  show putR p (regI a) (atR p (slotR (b - 16))) = _
  rw [reg_of ha, slot_of hb]
theorem do_store (p : List Int) {a b : Int} (ha : 0 ≤ a ∧ a < 16) (hb : 16 ≤ b ∧ b < 40) : doS regI p (storeM a b) = putR p b (atR p a) := by
  show putR p (slotR (b - 16)) (atR p (regI a)) = _
  rw [reg_of ha, slot_of hb]
theorem do_swap (p : List Int) {a b : Int} (ha : 0 ≤ a ∧ a < 16) (hb : 0 ≤ b ∧ b < 16) : doS regI p (swapM a b) = putR (putR p a (atR p b)) b (atR p a) := by
  show putR (putR p (regI a) (atR p (regI b))) (regI b) (atR p (regI a)) = _
  rw [reg_of ha, reg_of hb]

theorem doR_app (r : Int → Int) (c d : List Mac) (p : List Int) : doR r (c ++ d) p = doR r d (doR r c p) := List.foldl_append
theorem doR_length (r : Int → Int) : ∀ (c : List Mac) (p : List Int), (doR r c p).length = p.length
  | [], _ => rfl
  | m :: c, p => by
    show (doR r c (doS r p m)).length = _
    rw [doR_length r c, doS_len]

/-- The places of which something is said: not the second spare slot; and, where slots move by the scratch register, not that. -/
def Said (sc : Int) (regs : Bool) (k : Int) : Prop := 0 ≤ k ∧ k < 40 ∧ k ≠ 27 ∧ (sc = 15 → regs = false → k ≠ 15)

theorem bring_does {sc : Int} (h1 : sc = -1 ∨ sc = 15) (regs : Bool) {to frm : Int} (ht : 0 ≤ to ∧ to < 40) (hf : 0 ≤ frm ∧ frm < 40) (ht7 : to ≠ 27) (hf7 : frm ≠ 27) (hr : regs = true → to < 16 ∧ frm < 16) (s : List Mac × Int) (hs : s.2 = 0) (p : List Int) (hp : p.length = 40) :
    (bringR sc 10 s to frm).2 = 0 ∧ ∀ k, Said sc regs k → atR (doR regI (bringR sc 10 s to frm).1 p) k = if k = to then atR (doR regI s.1 p) frm else atR (doR regI s.1 p) k := by
  have hl : (doR regI s.1 p).length = 40 := by rw [doR_length, hp]
  unfold bringR bringC
  rw [if_neg (by simp [hs])]
  generalize hq : doR regI s.1 p = q at hl
  by_cases c1 : to < 16 ∧ frm < 16
  · rw [if_pos c1]
    refine ⟨rfl, fun k _ => ?_⟩
    show atR (doR regI (s.1 ++ [movM to frm]) p) k = _
    rw [doR_app, hq]
    show atR (doS regI q (movM to frm)) k = _
    rw [do_mov q ⟨ht.1, c1.1⟩ ⟨hf.1, c1.2⟩, atR_put hl _ ht]
  rw [if_neg c1]
  by_cases c2 : to < 16
  · rw [if_pos c2]
    refine ⟨rfl, fun k _ => ?_⟩
    show atR (doR regI (s.1 ++ [loadM to frm]) p) k = _
    rw [doR_app, hq]
    show atR (doS regI q (loadM to frm)) k = _
    rw [do_load q ⟨ht.1, c2⟩ ⟨by omega, hf.2⟩, atR_put hl _ ht]
  rw [if_neg c2]
  by_cases c3 : frm < 16
  · rw [if_pos c3]
    refine ⟨rfl, fun k _ => ?_⟩
    show atR (doR regI (s.1 ++ [storeM frm to]) p) k = _
    rw [doR_app, hq]
    show atR (doS regI q (storeM frm to)) k = _
    rw [do_store q ⟨hf.1, c3⟩ ⟨by omega, ht.2⟩, atR_put hl _ ht]
  rw [if_neg c3]
  by_cases c4 : 0 ≤ sc
  · rw [if_pos c4]
    have e : sc = 15 := by omega
    subst e
    refine ⟨rfl, fun k ⟨hk0, hk1, hk7, hks⟩ => ?_⟩
    show atR (doR regI (s.1 ++ [loadM 15 frm, storeM 15 to]) p) k = _
    rw [doR_app, hq]
    show atR (doS regI (doS regI q (loadM 15 frm)) (storeM 15 to)) k = _
    have hrf : regs = false := by
      cases regs with
      | false => rfl
      | true => exact absurd (hr rfl).1 c2
    have hk15 := hks rfl hrf
    rw [do_load q (by decide) ⟨by omega, hf.2⟩, do_store _ (by decide) ⟨by omega, ht.2⟩, atR_put (by rw [putR_len, hl]) _ ht, atR_put hl _ (by decide), atR_put hl _ (by decide), if_pos rfl, if_neg hk15]
  · rw [if_neg c4, if_neg (by decide)]
    refine ⟨rfl, fun k ⟨hk0, hk1, hk7, hks⟩ => ?_⟩
    show atR (doR regI (s.1 ++ [storeM 0 27, loadM 0 frm, storeM 0 to, loadM 0 27]) p) k = _
    rw [doR_app, hq]
    show atR (doS regI (doS regI (doS regI (doS regI q (storeM 0 27)) (loadM 0 frm)) (storeM 0 to)) (loadM 0 27)) k = _
    rw [do_store q (by decide) (by decide), do_load _ (by decide) ⟨by omega, hf.2⟩, do_store _ (by decide) ⟨by omega, ht.2⟩, do_load _ (by decide) (by decide)]
    have t0 : to ≠ 0 := by omega
    have f0 : frm ≠ 0 := by omega
    obtain ⟨q1, e1⟩ : ∃ q1, q1 = putR q 27 (atR q 0) := ⟨_, rfl⟩
    have l1 : q1.length = 40 := by rw [e1, putR_len, hl]
    have a1 : ∀ k, atR q1 k = if k = 27 then atR q 0 else atR q k := fun k => by rw [e1, atR_put hl _ (by decide)]
    rw [← e1]
    obtain ⟨q2, e2⟩ : ∃ q2, q2 = putR q1 0 (atR q1 frm) := ⟨_, rfl⟩
    have l2 : q2.length = 40 := by rw [e2, putR_len, l1]
    have a2 : ∀ k, atR q2 k = if k = 0 then atR q1 frm else atR q1 k := fun k => by rw [e2, atR_put l1 _ (by decide)]
    rw [← e2]
    obtain ⟨q3, e3⟩ : ∃ q3, q3 = putR q2 to (atR q2 0) := ⟨_, rfl⟩
    have l3 : q3.length = 40 := by rw [e3, putR_len, l2]
    have a3 : ∀ k, atR q3 k = if k = to then atR q2 0 else atR q2 k := fun k => by rw [e3, atR_put l2 _ ht]
    rw [← e3, atR_put l3 _ (by decide)]
    clear e1 e2 e3
    by_cases e0 : k = 0
    · rw [if_pos e0, a3, if_neg (fun h => ht7 h.symm), a2, if_neg (by decide), a1, if_pos rfl, if_neg (by omega), e0]
    · rw [if_neg e0, a3]
      by_cases e : k = to
      · rw [if_pos e, if_pos e, a2, if_pos rfl, a1, if_neg hf7]
      · rw [if_neg e, if_neg e, a2, if_neg e0, a1, if_neg hk7]
end Go.Ab

/- A circle, done one by one. -/
namespace Go.Ab
open Go.Proofs

section
variable {f : Nat → Int} {n : Nat}

theorem swaps_do (hd : ∀ i j, i < j → j ≤ n → f i ≠ f j) (hf : ∀ i ≤ n, 0 ≤ f i ∧ f i < 16) {q : List Int} (hq : q.length = 40) : ∀ j ≤ n,
    (∀ i < j, atR (doR regI ((List.range j).map fun i => swapM (f i) (f (i + 1))) q) (f i) = atR q (f (i + 1))) ∧
    atR (doR regI ((List.range j).map fun i => swapM (f i) (f (i + 1))) q) (f j) = atR q (f 0) ∧
    ∀ k, (∀ i ≤ j, k ≠ f i) → atR (doR regI ((List.range j).map fun i => swapM (f i) (f (i + 1))) q) k = atR q k
  | 0, _ => ⟨fun i hi => absurd hi (Nat.not_lt_zero _), rfl, fun _ _ => rfl⟩
  | j + 1, hj => by
    obtain ⟨a, b, c⟩ := swaps_do hd hf hq j (by omega)
    rw [List.range_succ, List.map_append, doR_app]
    have hl : (doR regI ((List.range j).map fun i => swapM (f i) (f (i + 1))) q).length = 40 := by rw [doR_length, hq]
    generalize doR regI ((List.range j).map fun i => swapM (f i) (f (i + 1))) q = r at *
    have e : doR regI ([j].map fun i => swapM (f i) (f (i + 1))) r = doS regI r (swapM (f j) (f (j + 1))) := rfl
    rw [e, do_swap r (hf j (by omega)) (hf (j + 1) hj)]
    have h1 := hf j (by omega)
    have h2 := hf (j + 1) hj
    have hv : ∀ k, atR (putR (putR r (f j) (atR r (f (j + 1)))) (f (j + 1)) (atR r (f j))) k = if k = f (j + 1) then atR r (f j) else if k = f j then atR r (f (j + 1)) else atR r k := fun k => by
      rw [atR_put (by rw [putR_len, hl]) _ ⟨h2.1, by omega⟩, atR_put hl _ ⟨h1.1, by omega⟩]
    have hj1 : atR r (f (j + 1)) = atR q (f (j + 1)) := c _ (fun i hi e => hd i (j + 1) (by omega) hj e.symm)
    refine ⟨fun i hi => ?_, ?_, fun k hk => ?_⟩
    · rw [hv, if_neg (hd i (j + 1) hi hj)]
      by_cases e : i = j
      · subst e; rw [if_pos rfl, hj1]
      · rw [if_neg (hd i j (by omega) (by omega))]
        exact a i (by omega)
    · rw [hv, if_pos rfl, b]
    · rw [hv, if_neg (hk _ (Nat.le_refl _)), if_neg (hk j (by omega)), c k (fun i hi => hk i (by omega))]

theorem fold_does {sc : Int} (h1 : sc = -1 ∨ sc = 15) (regs : Bool) (hd : ∀ i j, i < j → j ≤ n → f i ≠ f j) (hf : ∀ i ≤ n, 0 ≤ f i ∧ f i < 24 ∧ f i ≠ 15) (hr : regs = true → ∀ i ≤ n, f i < 16) {p : List Int} (hp : p.length = 40) {s : List Mac × Int} (hs : s.2 = 0) : ∀ j ≤ n,
    (((List.range j).map fun i => (f i, f (i + 1))).foldl (fun s p => bringR sc 10 s p.1 p.2) s).2 = 0 ∧
    (∀ i < j, atR (doR regI (((List.range j).map fun i => (f i, f (i + 1))).foldl (fun s p => bringR sc 10 s p.1 p.2) s).1 p) (f i) = atR (doR regI s.1 p) (f (i + 1))) ∧
    ∀ k, Said sc regs k → (∀ i < j, k ≠ f i) → atR (doR regI (((List.range j).map fun i => (f i, f (i + 1))).foldl (fun s p => bringR sc 10 s p.1 p.2) s).1 p) k = atR (doR regI s.1 p) k
  | 0, _ => ⟨hs, fun i hi => absurd hi (Nat.not_lt_zero _), fun _ _ _ => rfl⟩
  | j + 1, hj => by
    obtain ⟨a, b, c⟩ := fold_does h1 regs hd hf hr hp hs j (by omega)
    rw [List.range_succ, List.map_append, List.foldl_append]
    generalize ((List.range j).map fun i => (f i, f (i + 1))).foldl (fun s p => bringR sc 10 s p.1 p.2) s = t at *
    have g1 := hf j (by omega)
    have g2 := hf (j + 1) hj
    have e : ([j].map fun i => (f i, f (i + 1))).foldl (fun s p => bringR sc 10 s p.1 p.2) t = bringR sc 10 t (f j) (f (j + 1)) := rfl
    rw [e]
    obtain ⟨w1, w2⟩ := bring_does h1 regs (to := f j) (frm := f (j + 1)) ⟨g1.1, by omega⟩ ⟨g2.1, by omega⟩ (by omega) (by omega) (fun h => ⟨hr h j (by omega), hr h (j + 1) hj⟩) t a p hp
    have sd : ∀ i ≤ n, Said sc regs (f i) := fun i hi => by
      have := hf i hi
      exact ⟨this.1, by omega, by omega, fun _ _ => this.2.2⟩
    have hj1 : atR (doR regI t.1 p) (f (j + 1)) = atR (doR regI s.1 p) (f (j + 1)) := c _ (sd _ hj) (fun i hi e => hd i (j + 1) (by omega) hj e.symm)
    refine ⟨w1, fun i hi => ?_, fun k hk hne => ?_⟩
    · rw [w2 _ (sd i (by omega))]
      by_cases e : i = j
      · subst e; rw [if_pos rfl, hj1]
      · rw [if_neg (hd i j (by omega) (by omega))]
        exact b i (by omega)
    · rw [w2 k hk, if_neg (hne j (by omega)), c k hk (fun i hi => hne i (by omega))]

/-- The places of which something is said at last. -/
def Kept (sc k : Int) : Prop := 0 ≤ k ∧ k < 40 ∧ k ≠ 26 ∧ k ≠ 27 ∧ (sc = 15 → k ≠ 15)

theorem Kept.said {sc k : Int} (h : Kept sc k) (regs : Bool) : Said sc regs k := ⟨h.1, h.2.1, h.2.2.2.1, fun e _ => h.2.2.2.2 e⟩

theorem circ_last (f : Nat → Int) (n : Nat) : (circL f n).getD ((circL f n).length - 1) 0 = f n := by
  simp [circL, List.getD_eq_getElem?_getD]

theorem circ_regs (f : Nat → Int) (n : Nat) : regsR (circL f n) = true ↔ ∀ i ≤ n, f i < 16 := by
  simp only [regsR, circL, List.all_eq_true, List.mem_map, List.mem_range, decide_eq_true_eq]
  constructor
  · intro h i hi
    exact h _ ⟨i, by omega, rfl⟩
  · rintro h x ⟨i, hi, rfl⟩
    exact h i (by omega)

theorem round_does {sc : Int} (h1 : sc = -1 ∨ sc = 15) (hd : ∀ i j, i < j → j ≤ n → f i ≠ f j) (hf : ∀ i ≤ n, 0 ≤ f i ∧ f i < 24 ∧ f i ≠ 15) {p : List Int} (hp : p.length = 40) {s : List Mac × Int} (hs : s.2 = 0) :
    (∀ i < n, atR (doR regI (roundR sc 10 s (circL f n)).1 p) (f i) = atR (doR regI s.1 p) (f (i + 1))) ∧
    atR (doR regI (roundR sc 10 s (circL f n)).1 p) (f n) = atR (doR regI s.1 p) (f 0) ∧
    ∀ k, Kept sc k → (∀ i ≤ n, k ≠ f i) → atR (doR regI (roundR sc 10 s (circL f n)).1 p) k = atR (doR regI s.1 p) k := by
  unfold roundR
  by_cases c1 : regsR (circL f n) = true ∧ sc < 0
  · rw [if_pos c1]
    have hr := (circ_regs f n).1 c1.1
    show (∀ i < n, atR (doR regI (s.1 ++ _) p) (f i) = _) ∧ atR (doR regI (s.1 ++ _) p) (f n) = _ ∧ ∀ k, Kept sc k → _ → atR (doR regI (s.1 ++ _) p) k = _
    rw [doR_app, pairs_circ, List.map_map]
    obtain ⟨a, b, c⟩ := swaps_do hd (fun i hi => ⟨(hf i hi).1, hr i hi⟩) (q := doR regI s.1 p) (by rw [doR_length, hp]) n (Nat.le_refl _)
    exact ⟨a, b, fun k _ hk => c k hk⟩
  · rw [if_neg c1, if_neg (by omega)]
    simp only
    rw [circ_last, circ_zero, pairs_circ]
    obtain ⟨regs, hreg⟩ : ∃ regs, regs = regsR (circL f n) := ⟨_, rfl⟩
    rw [← hreg]
    have hr : regs = true → ∀ i ≤ n, f i < 16 := fun h => (circ_regs f n).1 (by rw [← hreg]; exact h)
    obtain ⟨at', hat⟩ : ∃ a, a = (if regs = true then sc else 16 + 10) := ⟨_, rfl⟩
    rw [← hat]
    have hat2 : (regs = true ∧ at' = 15 ∧ sc = 15) ∨ (regs = false ∧ at' = 26) := by
      cases regs with
      | true => exact .inl ⟨rfl, by rw [hat, if_pos rfl]; rcases h1 with h | h; exact absurd ⟨hreg.symm, by omega⟩ c1; exact h, by rcases h1 with h | h; exact absurd ⟨hreg.symm, by omega⟩ c1; exact h⟩
      | false => exact .inr ⟨rfl, by rw [hat, if_neg (by decide)]; rfl⟩
    clear hat
    have hne : ∀ i ≤ n, f i ≠ at' := fun i hi => by have := hf i hi; omega
    have hats : Said sc regs at' := by
      rcases hat2 with ⟨a, b, c⟩ | ⟨a, b⟩
      · rw [a, b]; exact ⟨by decide, by decide, by decide, fun _ h => by cases h⟩
      · rw [b]; exact ⟨by decide, by decide, by decide, fun _ _ => by decide⟩
    have hka : ∀ k, Kept sc k → k ≠ at' := fun k hk e => by
      rcases hat2 with ⟨a, b, c⟩ | ⟨a, b⟩
      · exact hk.2.2.2.2 c (by omega)
      · exact hk.2.2.1 (by omega)
    have h0 := hf 0 (by omega)
    have hn := hf n (Nat.le_refl _)
    have sd : ∀ i ≤ n, Said sc regs (f i) := fun i hi => by
      have := hf i hi
      exact ⟨this.1, by omega, by omega, fun _ _ => this.2.2⟩
    have hra : regs = true → at' < 16 := fun h => by rcases hat2 with ⟨a, b, c⟩ | ⟨a, b⟩; omega; rw [h] at a; cases a
    obtain ⟨u1, u2⟩ := bring_does h1 regs (to := at') (frm := f 0) ⟨hats.1, hats.2.1⟩ ⟨h0.1, by omega⟩ hats.2.2.1 (by omega) (fun h => ⟨hra h, hr h 0 (by omega)⟩) s hs p hp
    generalize bringR sc 10 s at' (f 0) = s1 at u1 u2 ⊢
    obtain ⟨v1, v2, v3⟩ := fold_does h1 regs hd hf hr hp u1 n (Nat.le_refl _)
    generalize ((List.range n).map fun i => (f i, f (i + 1))).foldl (fun s p => bringR sc 10 s p.1 p.2) s1 = s2 at v1 v2 v3 ⊢
    obtain ⟨w1, w2⟩ := bring_does h1 regs (to := f n) (frm := at') ⟨hn.1, by omega⟩ ⟨hats.1, hats.2.1⟩ (by omega) hats.2.2.1 (fun h => ⟨hr h n (Nat.le_refl _), hra h⟩) s2 v1 p hp
    refine ⟨fun i hi => ?_, ?_, fun k hk hkn => ?_⟩
    · rw [w2 _ (sd i (by omega)), if_neg (hd i n hi (Nat.le_refl _)), v2 i hi, u2 _ (sd (i + 1) hi), if_neg (hne (i + 1) hi)]
    · rw [w2 _ (sd n (Nat.le_refl _)), if_pos rfl, v3 _ hats (fun i hi e => hne i (by omega) e.symm), u2 _ hats, if_pos rfl]
    · rw [w2 k (hk.said regs), if_neg (hkn n (Nat.le_refl _)), v3 k (hk.said regs) (fun i hi => hkn i (by omega)), u2 k (hk.said regs), if_neg (hka k hk)]
end

/-! ### The whole order -/
structure Way (sc : Int) (p0 : List Int) (fin : Int → Int) (l : List Move) (s : List Mac × Int) : Prop where
  ok : s.2 = 0
  done : ∀ k, Kept sc k → (∀ m ∈ l, m.1 ≠ k) → atR (doR regI s.1 p0) k = fin k
  src : ∀ m ∈ l, atR (doR regI s.1 p0) m.2 = atR p0 m.2
  fin : ∀ m ∈ l, fin m.1 = atR p0 m.2

theorem OkM.sub {l l' : List Move} (h : OkM l) (hs : l'.Sublist l) : OkM l' :=
  ⟨(hs.map _).nodup h.nd, fun q hq => h.pl q (hs.subset hq), fun q hq => h.n15 q (hs.subset hq)⟩

theorem OkM.kept {l : List Move} (h : OkM l) {q : Move} (hq : q ∈ l) (sc : Int) : Kept sc q.1 ∧ Kept sc q.2 := by
  obtain ⟨⟨a, b⟩, c, d⟩ := h.pl q hq
  obtain ⟨e, g⟩ := h.n15 q hq
  exact ⟨⟨a, by omega, by omega, by omega, fun _ => e⟩, c, by omega, by omega, by omega, fun _ => g⟩

theorem way_loop {sc : Int} (h1 : sc = -1 ∨ sc = 15) {p0 : List Int} (hp : p0.length = 40) (fin : Int → Int) : ∀ (n : Nat) (l : List Move) (s : List Mac × Int), l.length ≤ n → OkM l → Way sc p0 fin l s →
    ∀ k, Kept sc k → atR (doR regI (loopR sc 10 n l s).1 p0) k = fin k
  | 0, l, s, hn, _, w, k, hk => by
    have : l = [] := List.length_eq_zero_iff.1 (by omega)
    subst this
    exact w.done k hk (fun m hm => by cases hm)
  | n + 1, l, s, hn, hok, w, k, hk => by
    simp only [loopR]
    by_cases c0 : l.length = 0 ∨ s.2 ≠ 0
    · rw [if_pos c0]
      have hl : l = [] := by
        rcases c0 with h | h
        · exact List.length_eq_zero_iff.1 h
        · exact absurd w.ok h
      subst hl
      exact w.done k hk (fun m hm => by cases hm)
    rw [if_neg c0]
    have hpos : ∀ q ∈ l, 0 ≤ q.1 := fun q hq => (hok.pl q hq).1.1
    by_cases c1 : 0 ≤ freeR l
    · rw [if_pos c1]
      have hff := (free_fold l l (-1) hpos).1 (by decide)
      change (freeR l = -1 ∧ _) ∨ (∃ q ∈ l, freeR l = q.1 ∧ (l.any fun k => k.2 == q.1) = false ∧ _) at hff
      obtain ⟨q, hq, e, hnf, _⟩ := hff.resolve_left (fun h => by omega)
      rw [e, source_of hok.nd hq]
      have hnf' : ∀ m ∈ l, m.2 ≠ q.1 := fun m hm e => by
        have := List.any_eq_false.1 hnf m hm
        exact this (beq_iff_eq.2 e)
      have hlt := step_free_lt c1
      rw [e] at hlt
      obtain ⟨kq1, kq2⟩ := hok.kept hq sc
      obtain ⟨w1, w2⟩ := bring_does h1 false (to := q.1) (frm := q.2) ⟨kq1.1, kq1.2.1⟩ ⟨kq2.1, kq2.2.1⟩ kq1.2.2.2.1 kq2.2.2.2.1 (fun h => by cases h) s w.ok p0 hp
      have hsub : (l.filter fun m => m.1 != q.1).Sublist l := List.filter_sublist
      refine way_loop h1 hp fin n _ _ (by omega) (hok.sub hsub) ⟨w1, fun k hk hno => ?_, fun m hm => ?_, fun m hm => w.fin m (hsub.subset hm)⟩ k hk
      · rw [w2 k (hk.said false)]
        by_cases ek : k = q.1
        · rw [if_pos ek, w.src q hq, ek, w.fin q hq]
        · rw [if_neg ek]
          refine w.done k hk (fun m hm em => ?_)
          exact hno m (List.mem_filter.2 ⟨hm, by rw [em]; simpa using ek⟩) em
      · have hm' := hsub.subset hm
        rw [w2 _ ((hok.kept hm' sc).2.said false), if_neg (hnf' m hm'), w.src m hm']
    · rw [if_neg c1]
      have hff := (free_fold l l (-1) hpos).1 (by decide)
      have hall : ∀ q ∈ l, ∃ k ∈ l, k.2 = q.1 := by
        rcases hff with ⟨_, h⟩ | ⟨q, hq, h, _⟩
        · intro q hq
          obtain ⟨k, hk, e⟩ := List.any_eq_true.1 (h q hq)
          exact ⟨k, hk, beq_iff_eq.1 e⟩
        · have := hpos q hq
          exact absurd (show 0 ≤ freeR l by unfold freeR; omega) c1
      have hne : l ≠ [] := fun h => c0 (.inl (by rw [h]; rfl))
      have hlt := step_circle_lt (l := l) (fun h => c0 (.inl h))
      obtain ⟨hn2, hback, n', hn', hlt', hend, hmem, hcirc, hdist⟩ := circle_facts hok.nd hpos hall (minTo_mem hne)
      have hf : ∀ i ≤ n', 0 ≤ itS l (minTo l) i ∧ itS l (minTo l) i < 24 ∧ itS l (minTo l) i ≠ 15 := fun i _ => by
        obtain ⟨q, hq, e, _⟩ := hmem i
        have a := hok.pl q hq
        have b := hok.n15 q hq
        omega
      obtain ⟨r1, r2, r3⟩ := round_does h1 hdist hf hp w.ok
      rw [← hcirc] at r1 r2 r3
      have hsub := dropAll_sublist (circleR l (minTo l)) l
      have inc : ∀ m, (∃ i ≤ n', m = itS l (minTo l) i) ↔ m ∈ circleR l (minTo l) := fun m => by
        rw [hcirc, circL, List.mem_map]
        constructor
        · rintro ⟨i, hi, rfl⟩; exact ⟨i, List.mem_range.2 (by omega), rfl⟩
        · rintro ⟨i, hi, rfl⟩; exact ⟨i, by have := List.mem_range.1 hi; omega, rfl⟩
      refine way_loop h1 hp fin n _ _ (by omega) (hok.sub hsub) ⟨round_ok (by decide) _ _ w.ok, fun k hk hno => ?_, fun m hm => ?_, fun m hm => w.fin m (hsub.subset hm)⟩ k hk
      · by_cases ek : ∃ i ≤ n', k = itS l (minTo l) i
        · obtain ⟨i, hi, rfl⟩ := ek
          obtain ⟨q, hq, e1, e2⟩ := hmem i
          rw [← e1, w.fin q hq, ← w.src q hq, e1]
          by_cases hin : i = n'
          · rw [hin, r2, e2, hin, hend]; rfl
          · rw [r1 i (by omega), e2]
        · rw [r3 k hk (fun i hi e => ek ⟨i, hi, e⟩)]
          refine w.done k hk (fun m hm em => ?_)
          refine hno m ((dropAll_mem _ _ _).2 ⟨hm, fun h => ?_⟩) em
          rw [em] at h
          exact ek ((inc k).2 h)
      · obtain ⟨hm', hnc⟩ := (dropAll_mem _ _ _).1 hm
        rw [r3 _ (hok.kept hm' sc).2 (fun i hi e => ?_), w.src m hm']
        -- the place read from is not of the circle
        obtain ⟨j, hj, q, hq, e1, e2⟩ : ∃ j ≤ n', ∃ q ∈ l, q.1 = itS l (minTo l) j ∧ q.2 = m.2 := by
          cases i with
          | zero =>
            obtain ⟨q, hq, e1, e2⟩ := hmem n'
            exact ⟨n', Nat.le_refl _, q, hq, e1, by rw [e2, hend, e]; rfl⟩
          | succ i =>
            obtain ⟨q, hq, e1, e2⟩ := hmem i
            exact ⟨i, by omega, q, hq, e1, by rw [e2, e]⟩
        have : q = m := uniq2 hn2 hq hm' e2
        subst this
        exact hnc ((inc _).1 ⟨j, hj, e1⟩)

/-- **What an order does, one by one, is what its moves do all at once.** -/
theorem order_alike {l : List Move} (hok : OkM l) {sc : Int} (h1 : sc = -1 ∨ sc = 15) {p : List Int} (hp : p.length = 40) (k : Int) (hk : Kept sc k) : atR (doR regI (outR l sc) p) k = atR (afterR l p) k := by
  have hsub : (realM l).Sublist l := List.filter_sublist
  have hval : ∀ k : Int, 0 ≤ k ∧ k < 40 → atR (afterR l p) k = lastTo p l k (atR p k) := fun k hk => by
    rw [atR, afterR_len, hp, if_neg (by omega), afterR, after_getD _ _ _ _ (by omega), atR, hp, if_neg (by omega)]
    congr 1
    omega
  have hto : ∀ m ∈ l, atR (afterR l p) m.1 = atR p m.2 := fun m hm => by
    have := hok.pl m hm
    rw [hval _ (by omega), lastTo_one p l m.1 _ m hm rfl hok.nd]
  refine way_loop h1 hp (fun k => atR (afterR l p) k) _ _ _ (Nat.le_refl _) (hok.sub hsub) ⟨rfl, fun k hk hno => ?_, fun m _ => rfl, fun m hm => hto m (hsub.subset hm)⟩ k hk
  show atR p k = atR (afterR l p) k
  by_cases h : ∃ m ∈ l, m.1 = k
  · obtain ⟨m, hm, rfl⟩ := h
    rw [hto m hm]
    by_cases e : m.1 = m.2
    · rw [e]
    · exact absurd rfl (hno m (List.mem_filter.2 ⟨hm, by simpa using e⟩))
  · rw [hval _ ⟨hk.1, hk.2.1⟩, lastTo_none p l k _ (fun m hm e => h ⟨m, hm, e⟩)]
end Go.Ab

/- MovesAlike. -/
namespace Go.Ab
open Go.Proofs

theorem map_fst (A : List Mac) : (A.map fun m => ((m, []) : MacX)).map (·.1) = A := by
  rw [List.map_map]; exact List.map_id _

theorem alike_at {l : List Move} (hok : OkM l) {sc : Int} (h1 : sc = -1 ∨ sc = 15) {p : List Int} (hp : p.length = 40) (k : Nat) (hk : k < 40) (h26 : k ≠ 26) (h27 : k ≠ 27) (h15 : sc = 15 → k ≠ 15) : (doR regI (((outR l sc).map fun m => ((m, []) : MacX)).map (·.1)) p).getD k 0 = (afterR l p).getD k 0 := by
  have h := order_alike hok h1 hp (k : Int) ⟨by omega, by omega, by omega, by omega, fun e => by have := h15 e; omega⟩
  rw [atR, atR, doR_length, afterR_len, hp, if_neg (by omega), if_neg (by omega)] at h
  rw [map_fst]
  exact h

def tr9 : Nat → DT := fun _ => (.take 0 (.take 1 (.take 2 (.take 4 (.take 5 (.take 6 (.alt 3 (.alt 7 (.take 8 (.take 9 (.take 10 (.take 11 (.take 12 (.take 13 (.take 14 (.take 15 (.take 16 (.take 17 (.take 18 (.take 19 (.take 20 (.take 21 (.take 22 (.take 23 (.take 24 .done))))))))))))))))) .stop) (.alt 7 (.alt 3 (.take 8 (.take 9 (.take 10 (.take 11 (.take 12 (.take 13 (.take 14 (.take 15 (.take 16 (.take 17 (.take 18 (.take 19 (.take 20 (.take 21 (.take 22 (.take 23 (.take 24 .done))))))))))))))))) .stop) .stop))))))))

set_option maxHeartbeats 4000000 in
theorem alike_ct (yl : Nat) (fs : Bool) (s : List Int) (b : Bool) (x : Int) : CT Try.prog (Cx.plain yl) noAr 9 [vI fs s, .bool b, .int .i32 x] [] (fun o H => o = .ret (.bool true) ∧ H = []) := by
  refine CT_of_W (tab := tabM) (D := []) (tr := tr9) Try.func9 (by kernel_rfl) rfl tabM_ok (Cx.plain_ok _ _) (by kernel_rfl) (fun z S R hz hS hR => ?_)
  cbv
  refine use_ct [] hS (Cx.plain_ok _ _) rfl (fun yl => awake_ct yl) (may_none []) ?_
  rintro o h' ⟨rfl, rfl⟩
  cbv
  refine use_ct [] hS (Cx.plain_ok _ _) rfl (fun yl => made_ct yl fs s) (may_none []) ?_
  rintro o h' ⟨l, hl, rfl, rfl⟩
  have hll : l.length ≤ 24 := by
    have := madeTo_len s (min s.length 20)
    rw [hl]; unfold madeR; omega
  have hok : OkM l := by rw [hl]; exact made_ok s
  clear hl
  cbv
  cases b with
  | false =>
    cbv
    have hol := out_len hok hll (.inl rfl)
    refine use_ct [] hS (Cx.plain_ok _ _) rfl (fun yl => order17ok_ct yl false l (-1) hok hll (.inl rfl)) (may_none []) ?_
    rintro o h' ⟨A, hA, rfl, rfl⟩
    rw [← hA] at hol
    cbv
    refine use_ct [] hS (Cx.plain_ok _ _) rfl (fun yl => start_ct yl x) (may_none []) ?_
    rintro o h' ⟨p, hp, rfl, rfl⟩
    have hpl : p.length = 40 := by rw [hp]; exact startR_len x
    cbv
    refine use_ct [] hS (Cx.plain_ok _ _) rfl (fun yl => CT.le (do23_fz yl false false (A.map fun m => (m, [])) p (by rw [List.length_map]; exact hol) (by omega)) ⟨LeV.macs _ _, LeV.refl _, trivial⟩) (may_none []) ?_
    rintro o h' ⟨d, hd, rfl, rfl⟩
    cbv
    refine use_ct [] hS (Cx.plain_ok _ _) rfl (fun yl => afterI_fz yl false false l p (by omega) (by omega)) (may_none []) ?_
    rintro o h' ⟨g, hg, rfl, rfl⟩
    have hdl : d.length = 40 := by rw [hd, doR_length, hpl]
    have hgl : g.length = 40 := by rw [hg, afterR_len, hpl]
    have hsame : ∀ k : Nat, k < 40 → k ≠ 26 → k ≠ 27 → ((-1) = (15 : Int) → k ≠ 15) → d.getD k 0 = g.getD k 0 := fun k h1 h2 h3 h4 => by
      rw [hd, hg, hA]
      exact alike_at hok (.inl rfl) hpl k h1 h2 h3 h4
    have hne0 : z .ne 0 0 = false := by rw [hz]; rfl
    have hn1 : z .ne (S .len Int d) 40 = false := by
      rw [hz, hS]; show ((d.length : Int) != 40) = false; rw [hdl]; rfl
    have hn2 : z .ne (S .len Int g) 40 = false := by
      rw [hz, hS]; show ((g.length : Int) != 40) = false; rw [hgl]; rfl
    clear hd hg hA
    cbv
    rw [hne0]
    cbv
    rw [hn1]
    cbv
    rw [hn2]
    cbv
    refine tri_loop hS (Cx.plain_ok _ _) (Nat.zero_le _) (fun m env H => ∃ (i : Nat), i ≤ 40 ∧ m = 40 - i ∧
        env = mkE 76 [(1, .bool false), (7, .bool true), (13, vJ false d), (14, vJ false g), (15, .int .i64 i)] ∧ H = []) 40
      (.keep [1, 7, 13, 14, 15]) (Nat.zero_le _) ⟨0, Nat.zero_le _, rfl, rfl, rfl⟩ ?_
    rintro m env H ⟨k, hk, rfl, rfl, rfl⟩ hh
    refine T_of_W (tab := tabM) (D := []) (tr := tr9) tabM_ok (Cx.plain_ok _ _) (by kernel_rfl) hh (fun z2 S2 Q2 hz2 hS2 hQ2 => ?_)
    cbv
    rcases h2 : z2 .lt (Int.ofNat k) 40 with _ | _
    · cbv
      apply hQ2
      cbv
      exact hR _ _ _ _ (.drop 0 rfl (Nat.zero_le _)) ⟨rfl, rfl⟩
    · have hlt : k < 40 := by
        rw [hz2] at h2
        have : (k : Int) < (40 : Int) := of_decide_eq_true h2
        omega
      have einc : z2 .ar .add .i64 (Int.ofNat k) 1 = Int.ofNat (k + 1) := by rw [hz2]; exact rz_inc k (by omega)
      have hdrw : ∀ H, S2 .drw H := fun H => by rw [hS2]; exact ⟨rfl, by kernel_rfl⟩
      have hig : S2 .idx Int g (Int.ofNat k) := by rw [hS2]; simp [reals]; omega
      have hid : S2 .idx Int d (Int.ofNat k) := by rw [hS2]; simp [reals]; omega
      have fin : ∀ env', keepE [1, 7, 13, 14, 15] env' = mkE 76 [(1, .bool false), (7, .bool true), (13, vJ false d), (14, vJ false g), (15, .int .i64 (Int.ofNat (k + 1)))] → Q2 .norm env' [] := fun env' he => by
        apply hQ2
        exact ⟨_, _, _, by omega, .keep [1, 7, 13, 14, 15], k + 1, hlt, rfl, he, rfl⟩
      have key : z2 .ne (S2 .at_ Int 0 d (z2 .nat (Int.ofNat k))) (S2 .at_ Int 0 g (z2 .nat (Int.ofNat k))) = true → z2 .ne (Int.ofNat k) 26 = true → z2 .ne (Int.ofNat k) 27 = true → False := fun a b c => by
        have b' : (k : Int) ≠ 26 := by rw [hz2] at b; exact bne_iff_ne.1 b
        have c' : (k : Int) ≠ 27 := by rw [hz2] at c; exact bne_iff_ne.1 c
        have a' : d.getD k 0 ≠ g.getD k 0 := by rw [hz2, hS2] at a; exact bne_iff_ne.1 a
        exact a' (hsame k hlt (by omega) (by omega) (fun h => by cases h))
      clear hQ2 hR
      refine ⟨hdrw _, ?_⟩
      cbv
      rcases hb1 : z2 .ne (S2 .at_ Int 0 d (z2 .nat (Int.ofNat k))) (S2 .at_ Int 0 g (z2 .nat (Int.ofNat k))) with _ | _
      · cbv
        repeat' first
          | exact trivial
          | exact hig
          | exact hid
          | refine And.intro ?_ ?_
          | (try cbv; rw [einc]; exact fin _ rfl)
          | fail
      · cbv
        rcases hb2 : z2 .ne (Int.ofNat k) 26 with _ | _
        · cbv
          repeat' first
            | exact trivial
            | exact hig
            | exact hid
            | refine And.intro ?_ ?_
            | (rw [einc]; exact fin _ rfl)
            | fail
        · rcases hb3 : z2 .ne (Int.ofNat k) 27 with _ | _
          · cbv
            repeat' first
              | exact trivial
              | exact hig
              | exact hid
              | refine And.intro ?_ ?_
              | (rw [hb3]; cbv; rw [einc]; exact fin _ rfl)
              | fail
          · have key := key hb1 hb2 hb3
            exact key.elim
  | true =>
    cbv
    have hol := out_len hok hll (.inr rfl)
    refine use_ct [] hS (Cx.plain_ok _ _) rfl (fun yl => order17ok_ct yl false l 15 hok hll (.inr rfl)) (may_none []) ?_
    rintro o h' ⟨A, hA, rfl, rfl⟩
    rw [← hA] at hol
    cbv
    refine use_ct [] hS (Cx.plain_ok _ _) rfl (fun yl => start_ct yl x) (may_none []) ?_
    rintro o h' ⟨p, hp, rfl, rfl⟩
    have hpl : p.length = 40 := by rw [hp]; exact startR_len x
    cbv
    refine use_ct [] hS (Cx.plain_ok _ _) rfl (fun yl => CT.le (do23_fz yl false false (A.map fun m => (m, [])) p (by rw [List.length_map]; exact hol) (by omega)) ⟨LeV.macs _ _, LeV.refl _, trivial⟩) (may_none []) ?_
    rintro o h' ⟨d, hd, rfl, rfl⟩
    cbv
    refine use_ct [] hS (Cx.plain_ok _ _) rfl (fun yl => afterI_fz yl false false l p (by omega) (by omega)) (may_none []) ?_
    rintro o h' ⟨g, hg, rfl, rfl⟩
    have hdl : d.length = 40 := by rw [hd, doR_length, hpl]
    have hgl : g.length = 40 := by rw [hg, afterR_len, hpl]
    have hsame : ∀ k : Nat, k < 40 → k ≠ 26 → k ≠ 27 → (15 = (15 : Int) → k ≠ 15) → d.getD k 0 = g.getD k 0 := fun k h1 h2 h3 h4 => by
      rw [hd, hg, hA]
      exact alike_at hok (.inr rfl) hpl k h1 h2 h3 h4
    have hne0 : z .ne 0 0 = false := by rw [hz]; rfl
    have hn1 : z .ne (S .len Int d) 40 = false := by
      rw [hz, hS]; show ((d.length : Int) != 40) = false; rw [hdl]; rfl
    have hn2 : z .ne (S .len Int g) 40 = false := by
      rw [hz, hS]; show ((g.length : Int) != 40) = false; rw [hgl]; rfl
    clear hd hg hA
    cbv
    rw [hne0]
    cbv
    rw [hn1]
    cbv
    rw [hn2]
    cbv
    refine tri_loop hS (Cx.plain_ok _ _) (Nat.zero_le _) (fun m env H => ∃ (i : Nat), i ≤ 40 ∧ m = 40 - i ∧
        env = mkE 76 [(1, .bool true), (7, .bool true), (13, vJ false d), (14, vJ false g), (15, .int .i64 i)] ∧ H = []) 40
      (.keep [1, 7, 13, 14, 15]) (Nat.zero_le _) ⟨0, Nat.zero_le _, rfl, rfl, rfl⟩ ?_
    rintro m env H ⟨k, hk, rfl, rfl, rfl⟩ hh
    refine T_of_W (tab := tabM) (D := []) (tr := tr9) tabM_ok (Cx.plain_ok _ _) (by kernel_rfl) hh (fun z2 S2 Q2 hz2 hS2 hQ2 => ?_)
    cbv
    rcases h2 : z2 .lt (Int.ofNat k) 40 with _ | _
    · cbv
      apply hQ2
      cbv
      exact hR _ _ _ _ (.drop 0 rfl (Nat.zero_le _)) ⟨rfl, rfl⟩
    · have hlt : k < 40 := by
        rw [hz2] at h2
        have : (k : Int) < (40 : Int) := of_decide_eq_true h2
        omega
      have einc : z2 .ar .add .i64 (Int.ofNat k) 1 = Int.ofNat (k + 1) := by rw [hz2]; exact rz_inc k (by omega)
      have hdrw : ∀ H, S2 .drw H := fun H => by rw [hS2]; exact ⟨rfl, by kernel_rfl⟩
      have hig : S2 .idx Int g (Int.ofNat k) := by rw [hS2]; simp [reals]; omega
      have hid : S2 .idx Int d (Int.ofNat k) := by rw [hS2]; simp [reals]; omega
      have fin : ∀ env', keepE [1, 7, 13, 14, 15] env' = mkE 76 [(1, .bool true), (7, .bool true), (13, vJ false d), (14, vJ false g), (15, .int .i64 (Int.ofNat (k + 1)))] → Q2 .norm env' [] := fun env' he => by
        apply hQ2
        exact ⟨_, _, _, by omega, .keep [1, 7, 13, 14, 15], k + 1, hlt, rfl, he, rfl⟩
      have key : z2 .ne (S2 .at_ Int 0 d (z2 .nat (Int.ofNat k))) (S2 .at_ Int 0 g (z2 .nat (Int.ofNat k))) = true → z2 .ne (Int.ofNat k) 26 = true → z2 .ne (Int.ofNat k) 27 = true → z2 .ne (Int.ofNat k) 15 = false := fun a b c => by
        have b' : (k : Int) ≠ 26 := by rw [hz2] at b; exact bne_iff_ne.1 b
        have c' : (k : Int) ≠ 27 := by rw [hz2] at c; exact bne_iff_ne.1 c
        have a' : d.getD k 0 ≠ g.getD k 0 := by rw [hz2, hS2] at a; exact bne_iff_ne.1 a
        rw [hz2]
        refine Bool.eq_false_iff.2 fun h => ?_
        have h' : (k : Int) ≠ 15 := bne_iff_ne.1 h
        exact a' (hsame k hlt (by omega) (by omega) (fun _ => by omega))
      clear hQ2 hR
      refine ⟨hdrw _, ?_⟩
      cbv
      rcases hb1 : z2 .ne (S2 .at_ Int 0 d (z2 .nat (Int.ofNat k))) (S2 .at_ Int 0 g (z2 .nat (Int.ofNat k))) with _ | _
      · cbv
        repeat' first
          | exact trivial
          | exact hig
          | exact hid
          | refine And.intro ?_ ?_
          | (try cbv; rw [einc]; exact fin _ rfl)
          | fail
      · cbv
        rcases hb2 : z2 .ne (Int.ofNat k) 26 with _ | _
        · cbv
          repeat' first
            | exact trivial
            | exact hig
            | exact hid
            | refine And.intro ?_ ?_
            | (rw [einc]; exact fin _ rfl)
            | fail
        · rcases hb3 : z2 .ne (Int.ofNat k) 27 with _ | _
          · cbv
            repeat' first
              | exact trivial
              | exact hig
              | exact hid
              | refine And.intro ?_ ?_
              | (rw [hb3]; cbv; rw [einc]; exact fin _ rfl)
              | fail
          · have key := key hb1 hb2 hb3
            cbv
            repeat' first
              | exact trivial
              | exact hig
              | exact hid
              | refine And.intro ?_ ?_
              | (rw [hb3]; cbv; rw [key]; cbv; rw [einc]; exact fin _ rfl)
              | fail
end Go.Ab
