/- Contracts of the program's functions over an abstract state, and what they rest on: part AbS. No condition. -/
import Derived.Test.YtdpmlgfkdgabkaaAbL
import Derived.Test.YtdpmlgfkdgabkaaAbP
set_option linter.unusedVariables false
set_option linter.unusedSimpArgs false

/- Order, plainly: what it rests on alone. -/
namespace Go.Ab
open Go.Proofs

theorem src_none {p b : Int} : ∀ {l : List Move}, (∀ q ∈ l, q.1 ≠ p) → l.foldl (fun o m => if m.1 == p then m.2 else o) b = b
  | [], _ => rfl
  | x :: l, h => by
    rw [List.foldl_cons, if_neg (by simpa using h x List.mem_cons_self)]
    exact src_none fun q hq => h q (List.mem_cons_of_mem _ hq)

theorem source_of {l : List Move} (hn : (l.map (·.1)).Nodup) {q : Move} (hq : q ∈ l) : sourceR l q.1 = q.2 := src_of hn hq
theorem source_none {l : List Move} {p : Int} (h : ∀ q ∈ l, q.1 ≠ p) : sourceR l p = -1 := src_none h

theorem source_perm {l l' : List Move} (hp : l.Perm l') (hn : (l.map (·.1)).Nodup) (p : Int) : sourceR l p = sourceR l' p := by
  by_cases h : ∃ q ∈ l, q.1 = p
  · obtain ⟨q, hq, rfl⟩ := h
    rw [source_of hn hq, source_of ((hp.map _).nodup_iff.1 hn) (hp.mem_iff.1 hq)]
  · rw [source_none fun q hq e => h ⟨q, hq, e⟩, source_none fun q hq e => h ⟨q, hp.mem_iff.2 hq, e⟩]

theorem freeStep_perm {l l' : List Move} (hp : l.Perm l') : freeStep l = freeStep l' := by
  funext b m
  unfold freeStep
  rw [hp.any_eq]

theorem free_perm {l l' : List Move} (hp : l.Perm l') (h0 : ∀ q ∈ l, 0 ≤ q.1) : freeR l = freeR l' := by
  unfold freeR
  rw [← freeStep_perm hp]
  refine hp.foldl_eq' (fun x hx y hy z => ?_) _
  have hx0 := h0 x hx
  have hy0 := h0 y hy
  unfold freeStep
  generalize (l.any fun k => k.2 == x.1) = a
  generalize (l.any fun k => k.2 == y.1) = b
  cases a <;> cases b <;> simp only [Bool.not_true, Bool.not_false, Bool.false_and, Bool.true_and, Bool.or_eq_true, decide_eq_true_eq]
  all_goals repeat' split
  all_goals first | rfl | omega | simp_all

theorem minTo_perm {l l' : List Move} (hp : l.Perm l') : minTo l = minTo l' := by
  by_cases h : l = []
  · subst h
    rw [hp.nil_eq]
  · have h' : l' ≠ [] := fun e => h (by rw [e] at hp; exact hp.eq_nil)
    obtain ⟨m, hm, e⟩ := minTo_mem h
    obtain ⟨m', hm', e'⟩ := minTo_mem h'
    have a := (min_le l' (l'.getD 0 (0, 0)).1).2 m (hp.mem_iff.1 hm)
    have b := (min_le l (l.getD 0 (0, 0)).1).2 m' (hp.mem_iff.2 hm')
    change minTo l' ≤ _ at a
    change minTo l ≤ _ at b
    omega

theorem circGo_congr {l l' : List Move} (h : ∀ p, sourceR l p = sourceR l' p) (x : Int) : ∀ (n : Nat) (out : List Int) (p : Int), circGo l x n out p = circGo l' x n out p
  | 0, _, _ => rfl
  | n + 1, out, p => by
    simp only [circGo]
    rw [h p, circGo_congr h x n]

theorem circle_perm {l l' : List Move} (hp : l.Perm l') (hn : (l.map (·.1)).Nodup) (x : Int) : circleR l x = circleR l' x := by
  unfold circleR
  rw [hp.length_eq, source_perm hp hn x, circGo_congr (source_perm hp hn)]

theorem dropAll_perm : ∀ (c : List Int) {l l' : List Move}, l.Perm l' → (dropAll l c).Perm (dropAll l' c)
  | [], _, _, hp => hp
  | x :: c, _, _, hp => dropAll_perm c (hp.filter _)

theorem filter_nd {l : List Move} (hn : (l.map (·.1)).Nodup) (f : Move → Bool) : ((l.filter f).map (·.1)).Nodup :=
  (List.filter_sublist.map _).nodup hn

theorem dropAll_sublist : ∀ (c : List Int) (l : List Move), (dropAll l c).Sublist l
  | [], _ => List.Sublist.refl _
  | x :: c, l => (dropAll_sublist c _).trans List.filter_sublist

theorem loop_perm (sc sp : Int) : ∀ (f : Nat) {l l' : List Move} (s : List Mac × Int), l.Perm l' → (l.map (·.1)).Nodup → (∀ q ∈ l, 0 ≤ q.1) → loopR sc sp f l s = loopR sc sp f l' s
  | 0, _, _, _, _, _, _ => rfl
  | f + 1, l, l', s, hp, hn, h0 => by
    simp only [loopR]
    rw [← free_perm hp h0, ← minTo_perm hp, ← circle_perm hp hn, ← source_perm hp hn, hp.length_eq]
    split
    · rfl
    · split
      · exact loop_perm sc sp f _ (hp.filter _) (filter_nd hn _) (fun q hq => h0 q (List.mem_filter.1 hq).1)
      · exact loop_perm sc sp f _ (dropAll_perm _ hp) (((dropAll_sublist _ l).map _).nodup hn) (fun q hq => h0 q ((dropAll_sublist _ l).subset hq))

theorem dup_false {l : List Move} (h : (l.map (·.1)).Nodup) : dupTo l l.length = false := by
  rw [dupTo, List.any_eq_false]
  intro i hi hd
  have hi := List.mem_range.1 hi
  unfold dupAt at hd
  obtain ⟨m, hm, e⟩ := List.any_eq_true.1 hd
  obtain ⟨j, hj⟩ := List.mem_iff_getElem?.1 hm
  have hji : j < i := by
    have := (List.getElem?_eq_some_iff.1 hj).1
    rw [List.length_take] at this; omega
  rw [List.getElem?_take, if_pos hji] at hj
  have e' := beq_iff_eq.1 e
  rw [List.getD_eq_getElem?_getD, List.getElem?_eq_getElem hi] at e'
  have h1 : (l.map (·.1))[j]? = some m.1 := by rw [List.getElem?_map, hj]; rfl
  have h2 : (l.map (·.1))[i]? = some m.1 := by rw [List.getElem?_map, List.getElem?_eq_getElem hi]; exact congrArg some e'
  exact absurd ((List.getElem?_inj (by rw [List.length_map]; omega) h).1 (h1.trans h2.symm)) (by omega)

/-- Nothing wrong with moves of these numbers. -/
structure OkM (l : List Move) : Prop where
  nd : (l.map (·.1)).Nodup
  pl : ∀ q ∈ l, (0 ≤ q.1 ∧ q.1 < 24) ∧ 0 ≤ q.2 ∧ q.2 < 24
  n15 : ∀ q ∈ l, q.1 ≠ 15 ∧ q.2 ≠ 15

theorem made_ok (s : List Int) : OkM (madeR s) := ⟨made_nd s, made_spots s, fun q hq => by
  obtain ⟨j, hj, e, r, h0, h1, e2⟩ := made_mem s q _ hq
  unfold spotR at e e2
  split at e <;> split at e2 <;> omega⟩

theorem OkM.perm {l l' : List Move} (h : OkM l) (hp : l.Perm l') : OkM l' :=
  ⟨(hp.map _).nodup_iff.1 h.nd, fun q hq => h.pl q (hp.mem_iff.2 hq), fun q hq => h.n15 q (hp.mem_iff.2 hq)⟩

theorem OkM.wrong {l : List Move} (h : OkM l) {sc sp : Int} (h1 : sc = -1 ∨ sc = 15) (h2 : sp = -1 ∨ sp = 10) : wrongR l sc sp = 0 := by
  have hb : l.any badR = false := List.any_eq_false.2 fun q hq => by
    obtain ⟨⟨a, b⟩, c, d⟩ := h.pl q hq
    simp [badR, placeR]; omega
  rw [wrongR, hb, dup_false h.nd, if_neg (by simp), if_neg (by simp), if_neg (by omega), if_neg, if_neg (by omega), if_neg]
  · rintro ⟨a, b⟩
    obtain ⟨q, hq, e⟩ := List.any_eq_true.1 b
    obtain ⟨⟨a, b⟩, c, d⟩ := h.pl q hq
    simp [hitR] at e
    omega
  · rintro ⟨a, b⟩
    obtain ⟨q, hq, e⟩ := List.any_eq_true.1 b
    have := h.n15 q hq
    simp [hitR] at e
    omega

theorem bring_ok {sc sp : Int} (h : 0 ≤ sp) (s : List Mac × Int) (to frm : Int) (hs : s.2 = 0) : (bringR sc sp s to frm).2 = 0 := by
  unfold bringR
  rw [if_neg (by simp [hs])]
  split
  · rfl
  · next hc =>
    unfold bringC at hc
    repeat' split at hc
    all_goals first | omega | cases hc

theorem round_ok {sc sp : Int} (h : 0 ≤ sp) (s : List Mac × Int) (c : List Int) (hs : s.2 = 0) : (roundR sc sp s c).2 = 0 := by
  unfold roundR
  split
  · exact hs
  · rw [if_neg (by omega)]
    simp only
    refine bring_ok h _ _ _ ?_
    have : ∀ (ps : List (Int × Int)) (s : List Mac × Int), s.2 = 0 → (ps.foldl (fun s p => bringR sc sp s p.1 p.2) s).2 = 0 := by
      intro ps
      induction ps with
      | nil => intro s hs; exact hs
      | cons p ps ih => intro s hs; exact ih _ (bring_ok h _ _ _ hs)
    exact this _ _ (bring_ok h _ _ _ hs)

theorem loop_ok {sc sp : Int} (h : 0 ≤ sp) : ∀ (f : Nat) (l : List Move) (s : List Mac × Int), s.2 = 0 → (loopR sc sp f l s).2 = 0
  | 0, _, _, hs => hs
  | f + 1, l, s, hs => by
    simp only [loopR]
    split
    · exact hs
    · split
      · exact loop_ok h f _ _ (bring_ok h _ _ _ hs)
      · exact loop_ok h f _ _ (round_ok h _ _ hs)

/-- With spare slots there is an order. -/
theorem OkM.order {l : List Move} (h : OkM l) {sc : Int} (h1 : sc = -1 ∨ sc = 15) : orderR l sc 10 = ((loopR sc 10 (realM l).length (realM l) ([], 0)).1, 0) := by
  have h2 := loop_ok (sc := sc) (sp := 10) (by decide) (realM l).length (realM l) ([], 0) rfl
  rw [orderR, if_neg (by simp [h.wrong h1 (.inr rfl)])]
  simp only
  rw [if_neg (by simp [h2])]

theorem OkM.turned {l l' : List Move} (h : OkM l) (hp : l.Perm l') {sc : Int} (h1 : sc = -1 ∨ sc = 15) : orderR l' sc 10 = orderR l sc 10 := by
  have hr : (realM l).Perm (realM l') := hp.filter _
  rw [(h.perm hp).order h1, h.order h1, loop_perm sc 10 _ _ hr (filter_nd h.nd _) (fun q hq => ((h.pl q (List.mem_filter.1 hq).1).1).1), hr.length_eq]

theorem rot_perm {α : Type} (l : List α) (k : Nat) : l.Perm (l.drop k ++ l.take k) := by
  conv => lhs; rw [← List.take_append_drop k l]
  exact List.perm_append_comm
end Go.Ab

/- MovesTurned. -/
namespace Go.Ab
open Go.Proofs

/-- What is one's own may be handed in as a list. -/
theorem CT.wk {yl : Nat} {p : Ar} {f : Nat} {args args' : List V} {H H' : Heap} {K : Out → Heap → Prop} (h : CT Try.prog (Cx.plain yl) p f args' H' K) (hw : Wk ⟨H.length, p⟩ args H args' H') (hl : H'.length = H.length) : CT Try.prog (Cx.plain yl) p f args H K := by
  refine ⟨h.1, fun G w vs hc s r => ?_⟩
  obtain ⟨G1, e1, s1, r1, _⟩ := hw G w vs.toList s (Nat.le_refl _) r
  refine CallsIn.mono (h.2 G1 w vs (e1.yl.trans hc) s1 r1) (fun e w' he => ?_)
  obtain ⟨G', x, H2, hend, hext, hs, hk⟩ := he
  rw [hl] at hext
  exact ⟨G', x, H2, hend, e1.trans hext, hs, hk⟩

theorem order17r_ct (yl : Nat) (n : Nat) (xs : List Move) (sc sp : Int) (hn : n = xs.length) (hl : xs.length ≤ 24) (h4 : -9223372036854775808 ≤ sp) :
    CT Try.prog (Cx.plain yl) noAr 17 [.ref 0 2 0 n, .int .i64 sc, .int .i64 sp] [.arr 31 elM xs] (fun o H => o = .ret (.tuple [vK false (orderR xs sc sp).1, .int .i64 (orderR xs sc sp).2]) ∧ H = [.dead]) := by
  have h1 : CT Try.prog (Cx.plain yl) (pullA [] noAr) 17 [vM false xs, .int .i64 sc, .int .i64 sp] [.dead] (fun o H => o = .ret (.tuple [vK false (orderR xs sc sp).1, .int .i64 (orderR xs sc sp).2]) ∧ H = [.dead]) :=
    CT.frame (σ := []) (fun _ _ h => h) rfl (fun yl => order17_ct yl false xs sc sp hl h4) (by rintro o h' ⟨rfl, rfl⟩; exact ⟨rfl, rfl⟩)
  have e : pullA [] noAr = noAr := by funext k; rfl
  rw [e] at h1
  refine CT.wk h1 ?_ rfl
  have h2 : Wk ⟨1, noAr⟩ [V.ref 0 2 0 n, .int .i64 sc, .int .i64 sp] [.arr 31 elM xs] (frzL 0 elM xs [V.ref 0 2 0 n, .int .i64 sc, .int .i64 sp]) ((mapF 0 elM xs [.arr 31 elM xs]).set 0 .dead) := .freeze 0 rfl
  have e2 : frzL 0 elM xs [V.ref 0 2 0 n, .int .i64 sc, .int .i64 sp] = [vM false xs, .int .i64 sc, .int .i64 sp] := by
    show [V.sl Move (0, 0) 2 encM false (xs.take n), .int .i64 sc, .int .i64 sp] = _
    rw [hn, List.take_length]; rfl
  rw [e2] at h2
  exact h2

/-- What is told with a spare slot at hand. -/
def outR (l : List Move) (sc : Int) : List Mac := (loopR sc 10 (realM l).length (realM l) ([], 0)).1

theorem order17ok_ct (yl : Nat) (fl : Bool) (l : List Move) (sc : Int) (hok : OkM l) (hl : l.length ≤ 24) (h1 : sc = -1 ∨ sc = 15) :
    CT Try.prog (Cx.plain yl) noAr 17 [vM fl l, .int .i64 sc, .int .i64 10] [] (fun o H => ∃ A, A = outR l sc ∧ o = .ret (.tuple [vK false A, .int .i64 0]) ∧ H = []) := by
  have h := order17_ct yl fl l sc 10 hl (by decide)
  rw [hok.order h1] at h
  exact ⟨h.1, fun G w vs hc s r => CallsIn.mono (h.2 G w vs hc s r) (fun e w' ⟨G', x, H', a, b, c, d, e'⟩ => ⟨G', x, H', a, b, c, _, rfl, d, e'⟩)⟩

theorem order17okr_ct (yl : Nat) (n : Nat) (xs l : List Move) (sc : Int) (hok : OkM l) (hp : l.Perm xs) (hn : n = xs.length) (hl : l.length ≤ 24) (h1 : sc = -1 ∨ sc = 15) :
    CT Try.prog (Cx.plain yl) noAr 17 [.ref 0 2 0 n, .int .i64 sc, .int .i64 10] [.arr 31 elM xs] (fun o H => ∃ A, A = outR l sc ∧ o = .ret (.tuple [vK false A, .int .i64 0]) ∧ H = [.dead]) := by
  have h := order17r_ct yl n xs sc 10 hn (by rw [← hp.length_eq]; exact hl) (by decide)
  rw [hok.turned hp h1, hok.order h1] at h
  exact ⟨h.1, fun G w vs hc s r => CallsIn.mono (h.2 G w vs hc s r) (fun e w' ⟨G', x, H', a, b, c, d, e'⟩ => ⟨G', x, H', a, b, c, _, rfl, d, e'⟩)⟩

theorem out_len {l : List Move} {sc : Int} (hok : OkM l) (hl : l.length ≤ 24) (h1 : sc = -1 ∨ sc = 15) : (outR l sc).length ≤ 100000 := by
  have h := order_len l sc 10 hl
  rw [hok.order h1] at h
  exact h

theorem restR_small (x : Int) {n : Int} (h0 : 0 < n) (h1 : n ≤ 1000) : 0 ≤ restR x n ∧ restR x n < n ∧ realz .ar .rem .i64 (realz .ar .add .i64 (realz .ar .rem .i64 x n) n) n = restR x n := by
  have a := Int.lt_tmod_of_pos x h0
  have b := Int.tmod_lt_of_pos x h0
  refine ⟨?_, Int.tmod_lt_of_pos _ h0, ?_⟩
  · unfold restR
    exact Int.tmod_nonneg n (by omega)
  · show Int.tmod (IntKind.wrap .i64 (Int.tmod x n + n)) n = _
    rw [wrap_small (by omega) (by omega)]; rfl

theorem rest_ct (yl : Nat) (x n : Int) (h0 : 0 < n) (h1 : n ≤ 1000) : CT Try.prog (Cx.plain yl) noAr 18 [.int .i64 x, .int .i64 n] [] (fun o H => ∃ r, r = restR x n ∧ o = .ret (.int .i64 r) ∧ H = []) := by
  refine CT_of_W (tab := tabM) (D := []) (tr := noTr) Try.func18 (by kernel_rfl) rfl tabM_ok (Cx.plain_ok _ _) (by kernel_rfl) (fun z S R hz hS hR => ?_)
  have hok : ∀ a, z .arok .rem .i64 a n := fun a => by rw [hz]; exact (by omega : n ≠ 0)
  cbv
  refine ⟨hok _, hok _, ?_⟩
  refine hR _ _ _ _ (Wk.refl _ _) ⟨_, ?_, rfl, rfl⟩
  rw [hz]; exact (restR_small x h0 h1).2.2

def tr5 : Nat → DT := fun _ => (.take 1 (.take 2 (.take 5 (.take 6 (.alt 0 (.alt 3 (.alt 4 (.alt 7 (.alt 8 (.take 9 .done) .stop) .stop) (.alt 7 (.alt 4 (.alt 8 (.take 9 .done) .stop) .stop) .stop)) (.alt 7 (.alt 3 (.alt 4 (.alt 8 (.take 9 .done) .stop) .stop) .stop) .stop)) (.alt 3 (.alt 0 (.alt 4 (.alt 7 (.alt 8 (.take 9 .done) .stop) .stop) (.alt 7 (.alt 4 (.alt 8 (.take 9 .done) .stop) .stop) .stop)) (.alt 7 (.alt 0 (.alt 4 (.alt 8 (.take 9 .done) .stop) .stop) .stop) .stop)) (.alt 7 (.alt 0 (.alt 3 (.alt 4 (.alt 8 (.take 9 .done) .stop) .stop) .stop) (.alt 3 (.alt 0 (.alt 4 (.alt 8 (.take 9 .done) .stop) .stop) .stop) .stop)) .stop)))))))

set_option maxHeartbeats 4000000 in
theorem turned_ct (yl : Nat) (fs : Bool) (s : List Int) (x : Int) (b : Bool) : CT Try.prog (Cx.plain yl) noAr 5 [vI fs s, .int .i64 x, .bool b] [] (fun o H => o = .ret (.bool true) ∧ H = []) := by
  refine CT_of_W (tab := tabM) (D := [28]) (tr := tr5) Try.func5 (by kernel_rfl) rfl tabM_ok (Cx.plain_ok _ _) (by kernel_rfl) (fun z S R hz hS hR => ?_)
  cbv
  refine use_ct [] hS (Cx.plain_ok _ _) rfl (fun yl => awake_ct yl) (may_none []) ?_
  rintro o h' ⟨rfl, rfl⟩
  cbv
  refine use_ct [] hS (Cx.plain_ok _ _) rfl (fun yl => made_ct yl fs s) (may_none []) ?_
  rintro o h' ⟨l, hl, rfl, rfl⟩
  have hll : l.length ≤ 24 := by
    have := madeTo_len s (min s.length 20)
    rw [hl]; unfold madeR; omega
  have hok : OkM l := by rw [hl]; exact made_ok s
  clear hl
  have fin : ∀ H, R [.bool true] H := fun H => hR _ _ _ _ (.drop 0 rfl (Nat.zero_le _)) ⟨rfl, by cases H <;> rfl⟩
  cbv
  rcases h1 : z .eq (S .len (Int × Int) l) 0 with _ | _
  · have hpos : 0 < l.length := by
      rw [hz, hS] at h1
      have : ((l.length : Int) == 0) = false := h1
      have := beq_eq_false_iff_ne.1 this
      omega
    have hlen : S .len (Int × Int) l = (l.length : Int) := by rw [hS]; rfl
    have hl0 : (0 : Int) < S .len (Int × Int) l ∧ S .len (Int × Int) l ≤ 1000 := by
      rw [hlen]; exact ⟨Int.ofNat_lt.2 hpos, Int.ofNat_le.2 (Nat.le_trans hll (by decide))⟩
    cbv
    cases b with
    | false =>
      cbv
      refine use_ct [] hS (Cx.plain_ok _ _) rfl (fun yl => rest_ct yl x (S .len (Int × Int) l) hl0.1 hl0.2) (may_none []) ?_
      rintro o h' ⟨k, hk, rfl, rfl⟩
      have hk2 : 0 ≤ k ∧ k < S .len (Int × Int) l := by
        rw [hk]
        have := restR_small x hl0.1 hl0.2
        exact ⟨this.1, this.2.1⟩
      clear hk
      have heq : ∀ x : Int, z .eq x x = true := fun x => by rw [hz]; exact beq_self_eq_true x
      have hol := out_len hok hll (.inl rfl)
      have hr1 : z .rng 0 k (S .len (Int × Int) l) := by rw [hz]; exact ⟨hk2.1, Int.le_of_lt hk2.2⟩
      have hmv : ∀ i H, S .mv i H := fun i H => by rw [hS]; exact fun k hk => absurd hk (Nat.not_lt_zero _)
      have hbd : ∀ a b : Nat, a ≤ 1000 → b ≤ 1000 → z .bd a b := fun a b ha hb => by rw [hz]; show a + b ≤ 1000000; omega
      have hcut : ∀ i j, (S .cut (Int × Int) l i j).length ≤ 24 := fun i j => by
        rw [hS]; show ((l.take j).drop i).length ≤ 24
        rw [List.length_drop, List.length_take]; omega
      have hadd : ∀ a b : Nat, a ≤ 24 → b ≤ 24 → z .add a b ≤ 48 := fun a b ha hb => by rw [hz]; show a + b ≤ 48; omega
      have e1 : S .cut (Int × Int) l (z .nat k) l.length = l.drop k.toNat := by rw [hS, hz]; show (l.take l.length).drop k.toNat = _; rw [List.take_length]
      have e2 : S .cut (Int × Int) l 0 (z .nat k) = l.take k.toNat := by rw [hS, hz]; rfl
      have eX : S .app elM.α (S .cut elM.α (S .app elM.α (S .cut elM.α [] 0 0) (S .cut (Int × Int) l (z .nat k) l.length)) 0 (z .add 0 (S .cut (Int × Int) l (z .nat k) l.length).length)) (S .cut (Int × Int) l 0 (z .nat k)) = l.drop k.toNat ++ l.take k.toNat := by
        rw [e1, e2, hS, hz]
        show (((([] : List Move).take 0).drop 0 ++ l.drop k.toNat).take (0 + (l.drop k.toNat).length)).drop 0 ++ l.take k.toNat = _
        rw [Nat.zero_add, List.take_nil, List.drop_nil, List.nil_append, List.take_length, List.drop_zero]
      have hP : l.Perm (S .app elM.α (S .cut elM.α (S .app elM.α (S .cut elM.α [] 0 0) (S .cut (Int × Int) l (z .nat k) l.length)) 0 (z .add 0 (S .cut (Int × Int) l (z .nat k) l.length).length)) (S .cut (Int × Int) l 0 (z .nat k))) := by
        rw [eX]; exact rot_perm l _
      have hN : z .add (z .add 0 (S .cut (Int × Int) l (z .nat k) l.length).length) (S .cut (Int × Int) l 0 (z .nat k)).length = (S .app elM.α (S .cut elM.α (S .app elM.α (S .cut elM.α [] 0 0) (S .cut (Int × Int) l (z .nat k) l.length)) 0 (z .add 0 (S .cut (Int × Int) l (z .nat k) l.length).length)) (S .cut (Int × Int) l 0 (z .nat k))).length := by
        rw [eX, e1, e2, hz]
        show 0 + (l.drop k.toNat).length + (l.take k.toNat).length = _
        rw [Nat.zero_add]; exact (List.length_append (α := Move)).symm
      clear e1 e2 eX
      cbv
      refine ⟨by rw [hS]; exact ⟨rfl, by kernel_rfl⟩, ?_⟩
      repeat' first
        | exact trivial
        | exact hr1
        | refine And.intro ?_ ?_
        | exact hbd _ _ (Nat.zero_le _) (Nat.le_trans (hcut _ _) (by decide))
        | exact hbd _ _ (Nat.le_trans (hadd _ _ (Nat.zero_le _) (hcut _ _)) (by decide)) (Nat.le_trans (hcut _ _) (by decide))
        | refine ⟨false, _, rfl, ?_, hmv _ _, ?_⟩
        | fail
      all_goals cbv
      repeat' first
        | exact trivial
        | exact hr1
        | refine And.intro ?_ ?_
        | exact hbd _ _ (Nat.zero_le _) (Nat.le_trans (hcut _ _) (by decide))
        | exact hbd _ _ (Nat.le_trans (hadd _ _ (Nat.zero_le _) (hcut _ _)) (by decide)) (Nat.le_trans (hcut _ _) (by decide))
        | refine ⟨false, _, rfl, ?_, hmv _ _, ?_⟩
        | fail
      all_goals cbv
      repeat' first
        | exact trivial
        | exact hr1
        | refine And.intro ?_ ?_
        | exact hbd _ _ (Nat.zero_le _) (Nat.le_trans (hcut _ _) (by decide))
        | exact hbd _ _ (Nat.le_trans (hadd _ _ (Nat.zero_le _) (hcut _ _)) (by decide)) (Nat.le_trans (hcut _ _) (by decide))
        | refine ⟨false, _, rfl, ?_, hmv _ _, ?_⟩
        | fail
      all_goals
        refine use_ct [] hS (Cx.plain_ok _ _) rfl (fun yl => order17ok_ct yl false l (-1) hok hll (.inl rfl)) (may_none []) ?_
        rintro o h' ⟨A, hA, rfl, rfl⟩
        rw [← hA] at hol
        cbv
        refine use_ct [0] hS (Cx.plain_ok _ _) rfl (fun yl => order17okr_ct yl _ _ l (-1) hok hP hN hll (.inl rfl)) (may_none [0]) ?_
        rintro o h' ⟨A', hA', rfl, rfl⟩
        obtain rfl : A' = A := hA'.trans hA.symm
        clear hA hA'
        cbv
        rw [heq]
        cbv
        rw [heq]
        cbv
        refine use_ct [] hS (Cx.plain_ok _ _) rfl (fun yl => same_ct yl false false A' hol) (may_none []) ?_
        rintro o h' ⟨rfl, rfl⟩
        cbv
        exact fin _
    | true =>
      cbv
      refine use_ct [] hS (Cx.plain_ok _ _) rfl (fun yl => rest_ct yl x (S .len (Int × Int) l) hl0.1 hl0.2) (may_none []) ?_
      rintro o h' ⟨k, hk, rfl, rfl⟩
      have hk2 : 0 ≤ k ∧ k < S .len (Int × Int) l := by
        rw [hk]
        have := restR_small x hl0.1 hl0.2
        exact ⟨this.1, this.2.1⟩
      clear hk
      have heq : ∀ x : Int, z .eq x x = true := fun x => by rw [hz]; exact beq_self_eq_true x
      have hol := out_len hok hll (.inr rfl)
      have hr1 : z .rng 0 k (S .len (Int × Int) l) := by rw [hz]; exact ⟨hk2.1, Int.le_of_lt hk2.2⟩
      have hmv : ∀ i H, S .mv i H := fun i H => by rw [hS]; exact fun k hk => absurd hk (Nat.not_lt_zero _)
      have hbd : ∀ a b : Nat, a ≤ 1000 → b ≤ 1000 → z .bd a b := fun a b ha hb => by rw [hz]; show a + b ≤ 1000000; omega
      have hcut : ∀ i j, (S .cut (Int × Int) l i j).length ≤ 24 := fun i j => by
        rw [hS]; show ((l.take j).drop i).length ≤ 24
        rw [List.length_drop, List.length_take]; omega
      have hadd : ∀ a b : Nat, a ≤ 24 → b ≤ 24 → z .add a b ≤ 48 := fun a b ha hb => by rw [hz]; show a + b ≤ 48; omega
      have e1 : S .cut (Int × Int) l (z .nat k) l.length = l.drop k.toNat := by rw [hS, hz]; show (l.take l.length).drop k.toNat = _; rw [List.take_length]
      have e2 : S .cut (Int × Int) l 0 (z .nat k) = l.take k.toNat := by rw [hS, hz]; rfl
      have eX : S .app elM.α (S .cut elM.α (S .app elM.α (S .cut elM.α [] 0 0) (S .cut (Int × Int) l (z .nat k) l.length)) 0 (z .add 0 (S .cut (Int × Int) l (z .nat k) l.length).length)) (S .cut (Int × Int) l 0 (z .nat k)) = l.drop k.toNat ++ l.take k.toNat := by
        rw [e1, e2, hS, hz]
        show (((([] : List Move).take 0).drop 0 ++ l.drop k.toNat).take (0 + (l.drop k.toNat).length)).drop 0 ++ l.take k.toNat = _
        rw [Nat.zero_add, List.take_nil, List.drop_nil, List.nil_append, List.take_length, List.drop_zero]
      have hP : l.Perm (S .app elM.α (S .cut elM.α (S .app elM.α (S .cut elM.α [] 0 0) (S .cut (Int × Int) l (z .nat k) l.length)) 0 (z .add 0 (S .cut (Int × Int) l (z .nat k) l.length).length)) (S .cut (Int × Int) l 0 (z .nat k))) := by
        rw [eX]; exact rot_perm l _
      have hN : z .add (z .add 0 (S .cut (Int × Int) l (z .nat k) l.length).length) (S .cut (Int × Int) l 0 (z .nat k)).length = (S .app elM.α (S .cut elM.α (S .app elM.α (S .cut elM.α [] 0 0) (S .cut (Int × Int) l (z .nat k) l.length)) 0 (z .add 0 (S .cut (Int × Int) l (z .nat k) l.length).length)) (S .cut (Int × Int) l 0 (z .nat k))).length := by
        rw [eX, e1, e2, hz]
        show 0 + (l.drop k.toNat).length + (l.take k.toNat).length = _
        rw [Nat.zero_add]; exact (List.length_append (α := Move)).symm
      clear e1 e2 eX
      cbv
      refine ⟨by rw [hS]; exact ⟨rfl, by kernel_rfl⟩, ?_⟩
      repeat' first
        | exact trivial
        | exact hr1
        | refine And.intro ?_ ?_
        | exact hbd _ _ (Nat.zero_le _) (Nat.le_trans (hcut _ _) (by decide))
        | exact hbd _ _ (Nat.le_trans (hadd _ _ (Nat.zero_le _) (hcut _ _)) (by decide)) (Nat.le_trans (hcut _ _) (by decide))
        | refine ⟨false, _, rfl, ?_, hmv _ _, ?_⟩
        | fail
      all_goals cbv
      repeat' first
        | exact trivial
        | exact hr1
        | refine And.intro ?_ ?_
        | exact hbd _ _ (Nat.zero_le _) (Nat.le_trans (hcut _ _) (by decide))
        | exact hbd _ _ (Nat.le_trans (hadd _ _ (Nat.zero_le _) (hcut _ _)) (by decide)) (Nat.le_trans (hcut _ _) (by decide))
        | refine ⟨false, _, rfl, ?_, hmv _ _, ?_⟩
        | fail
      all_goals cbv
      repeat' first
        | exact trivial
        | exact hr1
        | refine And.intro ?_ ?_
        | exact hbd _ _ (Nat.zero_le _) (Nat.le_trans (hcut _ _) (by decide))
        | exact hbd _ _ (Nat.le_trans (hadd _ _ (Nat.zero_le _) (hcut _ _)) (by decide)) (Nat.le_trans (hcut _ _) (by decide))
        | refine ⟨false, _, rfl, ?_, hmv _ _, ?_⟩
        | fail
      all_goals
        refine use_ct [] hS (Cx.plain_ok _ _) rfl (fun yl => order17ok_ct yl false l 15 hok hll (.inr rfl)) (may_none []) ?_
        rintro o h' ⟨A, hA, rfl, rfl⟩
        rw [← hA] at hol
        cbv
        refine use_ct [0] hS (Cx.plain_ok _ _) rfl (fun yl => order17okr_ct yl _ _ l 15 hok hP hN hll (.inr rfl)) (may_none [0]) ?_
        rintro o h' ⟨A', hA', rfl, rfl⟩
        obtain rfl : A' = A := hA'.trans hA.symm
        clear hA hA'
        cbv
        rw [heq]
        cbv
        rw [heq]
        cbv
        refine use_ct [] hS (Cx.plain_ok _ _) rfl (fun yl => same_ct yl false false A' hol) (may_none []) ?_
        rintro o h' ⟨rfl, rfl⟩
        cbv
        exact fin _
  · cbv
    exact fin _
end Go.Ab
