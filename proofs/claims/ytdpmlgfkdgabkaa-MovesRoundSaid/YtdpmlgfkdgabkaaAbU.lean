/- Contracts of the program's functions over an abstract state, and what they rest on: part AbU. No condition. -/
import Derived.Test.YtdpmlgfkdgabkaaAbT
set_option linter.unusedVariables false
set_option linter.unusedSimpArgs false

/- The table of types, with rows of numbers that are read back. -/
namespace Go.Ab
open Go.Proofs

theorem encL_inj {a b : List Int} (h : encL a = encL b) : a = b := by
  unfold encL vInts at h
  injection h with h
  injection h

theorem decL_ex : ∃ f : List V → List Int, ∀ xs, f (encL xs) = xs := by
  refine ⟨fun l => @dite _ (∃ xs, l = encL xs) (Classical.propDecidable _) (fun h => Classical.choose h) (fun _ => []), fun xs => ?_⟩
  have h : ∃ ys, encL xs = encL ys := ⟨xs, rfl⟩
  show @dite _ (∃ ys, encL xs = encL ys) (Classical.propDecidable _) (fun h => Classical.choose h) (fun _ => []) = xs
  rw [dif_pos h]
  exact (encL_inj (Classical.choose_spec h)).symm

def elN (dL : List V → List Int) : El := { α := List Int, d := [], n := 1, enc := encL, dec := dL }
theorem elN_ok (dL : List V → List Int) : ElOk (elN dL) := ⟨fun _ => rfl, fun x y hy => by simp [elN, encL] at hy; subst hy; rfl, (by show (0 : Nat) < 1; decide), (by show (1 : Nat) ≤ 100; decide)⟩

def tabNL (dL : List V → List Int) : List (Nat × TI) := (32, tySl (elN dL) 23) :: tabL
def tabN (dL : List V → List Int) : Tab := fun t => lookTI t (tabNL dL)

theorem tabN_ok (dL : List V → List Int) : ∀ t, TIok Try.prog t (tabN dL t) := fun t => by
  by_cases h : t = 32
  · subst h
    exact ti_slice (i := Try.t32) (j := Try.t23) (elN_ok dL) (by kernel_rfl) (by kernel_rfl) rfl rfl ⟨⟨rfl, rfl, rfl⟩, trivial⟩ (by kernel_rfl) rfl (by decide) rfl rfl ⟨⟨rfl, rfl, rfl, rfl⟩, trivial⟩
  · have e : tabN dL t = tabM t := by
      show (bif Nat.beq t 32 then _ else lookTI t tabL) = lookTI t tabL
      have : Nat.beq t 32 = false := by
        cases hb : Nat.beq t 32 with
        | false => rfl
        | true => exact absurd (Nat.eq_of_beq_eq_true hb) h
      rw [this]; rfl
    rw [e]; exact tabM_ok t

def vL (fl : Bool) (l : List (List Int)) : V := .sl (List Int) [] 1 encL fl l
end Go.Ab

/- The reference: takes; around. -/
namespace Go.Ab
open Go.Proofs

def takeR (l : List Move) (p : Int) : Int × Bool := if l.any (fun m => m.1 == p) then (sourceR l p, true) else (0, false)

theorem src_last {l : List Move} {p : Int} {i : Nat} (hi : i < l.length) (he : (l.getD i (0, 0)).1 = p) (hn : ∀ q ∈ l.drop (i + 1), q.1 ≠ p) : sourceR l p = (l.getD i (0, 0)).2 := by
  have e : l = l.take i ++ l.getD i (0, 0) :: l.drop (i + 1) := by
    rw [List.getD_eq_getElem?_getD, List.getElem?_eq_getElem hi]
    show l = l.take i ++ l[i] :: l.drop (i + 1)
    rw [← List.drop_eq_getElem_cons hi, List.take_append_drop]
  rw [sourceR]
  conv => lhs; rw [e]
  rw [List.foldl_append, List.foldl_cons, if_pos (by simpa using he)]
  exact src_none hn

theorem getD_memN (l : List Move) (d : Move) {i : Nat} (h : i < l.length) : l.getD i d ∈ l := by
  rw [List.getD_eq_getElem?_getD, List.getElem?_eq_getElem h]
  exact List.getElem_mem h

theorem takes_ct (yl : Nat) (fl : Bool) (l : List Move) (p : Int) (hl : l.length ≤ 1000) : CT Try.prog (Cx.plain yl) noAr 56 [vM fl l, .int .i64 p] [] (fun o H => ∃ a b, (a, b) = takeR l p ∧ o = .ret (.tuple [.int .i64 a, .bool b]) ∧ H = []) := by
  refine CT_of_W (tab := tabM) (D := []) (tr := noTr) Try.func56 (by kernel_rfl) rfl tabM_ok (Cx.plain_ok _ _) (by kernel_rfl) (fun z S R hz hS hR => ?_)
  have e0 : z .ar .sub .i64 (S .len (Int × Int) l) 1 = (l.length : Int) - 1 := by
    rw [hz, hS]; show IntKind.wrap .i64 ((l.length : Int) - 1) = _
    rw [wrap_small (by omega) (by omega)]
  cbv
  rw [e0]
  refine tri_loop hS (Cx.plain_ok _ _) (Nat.le_refl _) (fun m env H => ∃ (j : Nat) (i : Int), j ≤ l.length ∧ m = j ∧ i = (j : Int) - 1 ∧ (∀ q ∈ l.drop j, q.1 ≠ p) ∧
      env = mkE 26 [(0, vM fl l), (1, .int .i64 p), (6, .int .i64 i)] ∧ H = []) l.length
    (.keep [0, 1, 6]) (Nat.zero_le _) ⟨l.length, _, Nat.le_refl _, rfl, rfl, (by rw [List.drop_length]; intro q hq; cases hq), rfl, rfl⟩ ?_
  rintro m env H ⟨j, i, hj, rfl, hi, hno, rfl, rfl⟩ hh
  refine T_of_W (tab := tabM) (D := []) (tr := noTr) tabM_ok (Cx.plain_ok _ _) (by kernel_rfl) hh (fun z' S' Q' hz' hS' hQ => ?_)
  cbv
  have hi : i = (m : Int) - 1 := hi
  rcases h1 : z' .le 0 i with _ | _
  · have hj0 : m = 0 := by
      rw [hz'] at h1
      have : ¬ (0 : Int) ≤ i := of_decide_eq_false h1
      omega
    subst hj0
    cbv
    apply hQ
    cbv
    refine hR _ _ _ _ (Wk.refl _ _) ⟨0, false, ?_, rfl, rfl⟩
    rw [takeR, if_neg]
    intro h
    obtain ⟨q, hq, e⟩ := List.any_eq_true.1 h
    exact hno q hq (beq_iff_eq.1 e)
  · have h1' : 1 ≤ m := by
      rw [hz'] at h1
      have : (0 : Int) ≤ i := of_decide_eq_true h1
      omega
    obtain ⟨k, rfl⟩ : ∃ k, m = k + 1 := ⟨m - 1, by omega⟩
    obtain rfl : i = (k : Int) := by omega
    have hk : k < l.length := by omega
    have hidx : S' .idx (Int × Int) l (Int.ofNat k) := by rw [hS']; simp [reals]; omega
    have eat : S' .at_ (Int × Int) (0, 0) l (z' .nat (Int.ofNat k)) = l.getD k (0, 0) := by rw [hS', hz']; rfl
    have edec : z' .ar .sub .i64 (Int.ofNat k) 1 = (k : Int) - 1 := by
      rw [hz']; show IntKind.wrap .i64 ((k : Int) - 1) = _
      rw [wrap_small (by omega) (by omega)]
    have hsrc := src_last (p := p) hk
    have hmem := getD_memN l (0, 0) hk
    have hdrop : l.drop k = l.getD k (0, 0) :: l.drop (k + 1) := by
      rw [List.getD_eq_getElem?_getD, List.getElem?_eq_getElem hk]; exact List.drop_eq_getElem_cons hk
    cbv
    refine ⟨hidx, ?_⟩
    rw [eat]
    generalize l.getD k (0, 0) = q at *
    obtain ⟨to, frm⟩ := q
    cbv
    rcases h2 : z' .eq to p with _ | _
    · have h2' : to ≠ p := by rw [hz'] at h2; exact beq_eq_false_iff_ne.1 h2
      cbv
      apply hQ
      rw [edec]
      refine ⟨k, _, _, by omega, .keep [0, 1, 6], k, _, by omega, rfl, rfl, ?_, rfl, rfl⟩
      rw [hdrop]
      intro q hq
      rcases List.mem_cons.1 hq with rfl | hq
      · exact h2'
      · exact hno q hq
    · have h2' : to = p := by rw [hz'] at h2; exact beq_iff_eq.1 h2
      cbv
      refine ⟨hidx, ?_⟩
      rw [eat]
      cbv
      apply hQ
      cbv
      refine hR _ _ _ _ (Wk.refl _ _) ⟨frm, true, ?_, rfl, rfl⟩
      rw [takeR, if_pos (by exact List.any_eq_true.2 ⟨_, hmem, beq_iff_eq.2 h2'⟩), hsrc h2' hno]

def arGo (l : List Move) (x : Int) : Nat → List Int → Int → Bool → List Int × Int × Bool
  | 0, out, p, is => (out, p, is)
  | n + 1, out, p, is => if is = true ∧ p ≠ x ∧ x < p then arGo l x n (out ++ [p]) (takeR l p).1 (takeR l p).2 else (out, p, is)

def aroundR (l : List Move) (x : Int) : List Int :=
  let r := arGo l x l.length [x] (takeR l x).1 (takeR l x).2
  if r.2.2 = true ∧ r.2.1 = x then r.1 else []

theorem around_ct (yl : Nat) (fl : Bool) (l : List Move) (x : Int) (hl : l.length ≤ 1000) : CT Try.prog (Cx.plain yl) noAr 29 [vM fl l, .int .i64 x] [] (fun o H => ∃ c, c = aroundR l x ∧ o = .ret (vI false c) ∧ H = []) := by
  refine CT_of_W (tab := tabM) (D := [9]) (tr := noTr) Try.func29 (by kernel_rfl) rfl tabM_ok (Cx.plain_ok _ _) (by kernel_rfl) (fun z S R hz hS hR => ?_)
  cbv
  refine use_ct [] hS (Cx.plain_ok _ _) rfl (fun yl => takes_ct yl fl l x hl) (may_none []) ?_
  rintro o h' ⟨a, b, hab, rfl, rfl⟩
  cbv
  refine tri_loop hS (Cx.plain_ok _ _) (Nat.zero_le _) (fun m env H => ∃ (n : Nat) (ys : List Int) (p : Int) (is : Bool), n = ys.length ∧ 1 ≤ n ∧ n ≤ l.length + 1 ∧ m = l.length + 1 - n ∧ arGo l x (l.length + 1 - n) ys p is = arGo l x l.length [x] (takeR l x).1 (takeR l x).2 ∧
      env = mkE 52 [(0, vM fl l), (1, .int .i64 x), (5, .ref 0 1 0 n), (6, .int .i64 p), (7, .bool is)] ∧ H = [.arr 3 elI ys]) l.length
    (.keep [0, 1, 5, 6, 7]) (Nat.zero_le _) ⟨1, [x], a, b, rfl, Nat.le_refl _, by omega, by omega, by rw [← hab]; rfl, rfl, rfl⟩ ?_
  clear hab
  rintro m env H ⟨n, ys, p, is, hn, h1, h2, rfl, har, rfl, rfl⟩ hh
  refine T_of_W (tab := tabM) (D := [9]) (tr := noTr) tabM_ok (Cx.plain_ok _ _) (by kernel_rfl) hh (fun z' S' Q' hz' hS' hQ => ?_)
  have hlen : S' .len (Int × Int) l = (l.length : Int) := by rw [hS']; rfl
  -- the end
  have stop : arGo l x (l.length + 1 - n) ys p is = (ys, p, is) → aroundR l x = if is = true ∧ p = x then ys else [] := fun h => by
    unfold aroundR
    rw [← har, h]
  have good : aroundR l x = ys → R [.ref 0 1 0 n] [.arr 3 elI ys] := fun e => by
    refine hR _ _ _ _ (.trans (.freeze 0 rfl) (.drop 0 rfl (Nat.zero_le _))) ⟨_, rfl, ?_, rfl⟩
    show Out.ret (vI false (ys.take n)) = _
    rw [hn, List.take_length, e]
  have nil : aroundR l x = [] → R [.nils] [.arr 3 elI ys] := fun e => by
    refine hR _ _ _ _ (.trans (.slot 0 (LeV.nils Int 0 1 encI false)) (.drop 0 rfl (Nat.zero_le _))) ⟨_, rfl, ?_, rfl⟩
    rw [e]; rfl
  have more : is = true → p ≠ x → x < p → n ≤ l.length → arGo l x (l.length + 1 - n) ys p is = arGo l x (l.length + 1 - (n + 1)) (ys ++ [p]) (takeR l p).1 (takeR l p).2 := fun a b c d => by
    obtain ⟨k, hk⟩ : ∃ k, l.length + 1 - n = k + 1 := ⟨l.length - n, by omega⟩
    rw [hk, arGo, if_pos ⟨a, b, c⟩]
    congr 1
    omega
  have full : n = l.length + 1 → arGo l x (l.length + 1 - n) ys p is = (ys, p, is) := fun a => by
    rw [a, Nat.sub_self]; rfl
  have halt : ¬ (is = true ∧ p ≠ x ∧ x < p) → arGo l x (l.length + 1 - n) ys p is = (ys, p, is) := fun a => by
    cases l.length + 1 - n with
    | zero => rfl
    | succ k => rw [arGo, if_neg a]
  have har0 := har
  clear har
  cbv
  cases is with
  | false =>
    cbv
    apply hQ
    cbv
    exact nil (by rw [stop (halt (by simp)), if_neg (by simp)])
  | true =>
    cbv
    rcases h3 : z' .ne p x with _ | _
    · have h3' : p = x := by rw [hz'] at h3; exact bne_eq_false_iff_eq.1 h3
      have e3 : z .ne p x = false := by rw [hz]; exact bne_eq_false_iff_eq.2 h3'
      cbv
      apply hQ
      cbv
      rw [e3]
      cbv
      exact good (by rw [stop (halt (by simp [h3'])), if_pos ⟨rfl, h3'⟩])
    · have h3' : p ≠ x := by rw [hz'] at h3; exact bne_iff_ne.1 h3
      have e3 : z .ne p x = true := by rw [hz]; exact bne_iff_ne.2 h3'
      cbv
      rcases h4 : z' .lt x p with _ | _
      · have h4' : ¬ x < p := by rw [hz'] at h4; exact of_decide_eq_false h4
        cbv
        apply hQ
        cbv
        rw [e3]
        cbv
        exact nil (by rw [stop (halt (fun a => h4' a.2.2)), if_neg (fun a => h3' a.2)])
      · have h4' : x < p := by rw [hz'] at h4; exact of_decide_eq_true h4
        cbv
        rcases h5 : z' .le (Int.ofNat n) (S' .len (Int × Int) l) with _ | _
        · have h5' : n = l.length + 1 := by
            rw [hz', hlen] at h5
            have : ¬ (n : Int) ≤ (l.length : Int) := of_decide_eq_false h5
            omega
          cbv
          apply hQ
          cbv
          rw [e3]
          cbv
          exact nil (by rw [stop (full h5'), if_neg (fun a => h3' a.2)])
        · have h5' : n ≤ l.length := by
            rw [hz', hlen] at h5
            have : (n : Int) ≤ (l.length : Int) := of_decide_eq_true h5
            omega
          have hm := more rfl h3' h4' h5'
          cbv
          refine ⟨by rw [hz']; show n + 1 ≤ 1000000; omega, by rw [hS']; exact fun k hk => absurd hk (Nat.not_lt_zero _), ?_⟩
          refine use_ct [] hS' (Cx.plain_ok _ _) rfl (fun yl => takes_ct yl fl l p hl) (may_none []) ?_
          rintro o h' ⟨a, b, hab, rfl, rfl⟩
          cbv
          apply hQ
          refine ⟨_, _, _, by omega, .keep [0, 1, 5, 6, 7], n + 1, ys ++ [p], a, b, by simp [hn], by omega, by omega, rfl, ?_, by rw [hz']; rfl, ?_⟩
          · rw [← har0, hm, ← hab]
          · rw [hS']
            show [Blk.arr 3 elI ((ys.take n).drop 0 ++ [p])] = _
            rw [hn, List.take_length]; rfl
end Go.Ab

/- The reference: Circles. -/
namespace Go.Ab
open Go.Proofs

def Cond (b : Bool) (last : Int) (q : Move) : Prop := b = false ∨ last < q.1
def scanR (b : Bool) (last : Int) (s : Int × Bool) (m : Move) : Int × Bool := if (b = false ∨ last < m.1) ∧ (s.2 = false ∨ m.1 < s.1) then (m.1, true) else s

theorem scan_spec (b : Bool) (last : Int) : ∀ (l : List Move) (s : Int × Bool),
    (s.2 = true → (l.foldl (scanR b last) s).2 = true ∧ (l.foldl (scanR b last) s).1 ≤ s.1 ∧ ((l.foldl (scanR b last) s).1 = s.1 ∨ ∃ q ∈ l, q.1 = (l.foldl (scanR b last) s).1 ∧ Cond b last q) ∧ ∀ q ∈ l, Cond b last q → (l.foldl (scanR b last) s).1 ≤ q.1) ∧
    (s.2 = false → ((l.foldl (scanR b last) s).2 = false ∧ ∀ q ∈ l, ¬ Cond b last q) ∨ ((l.foldl (scanR b last) s).2 = true ∧ (∃ q ∈ l, q.1 = (l.foldl (scanR b last) s).1 ∧ Cond b last q) ∧ ∀ q ∈ l, Cond b last q → (l.foldl (scanR b last) s).1 ≤ q.1))
  | [], s => ⟨fun h => ⟨h, Int.le_refl _, .inl rfl, fun q hq => by cases hq⟩, fun h => .inl ⟨h, fun q hq => by cases hq⟩⟩
  | x :: l, s => by
    simp only [List.foldl_cons]
    by_cases hc : Cond b last x
    · by_cases hs : s.2 = false ∨ x.1 < s.1
      · have e : scanR b last s x = (x.1, true) := by rw [scanR, if_pos ⟨hc, hs⟩]
        rw [e]
        obtain ⟨a1, a2, a3, a4⟩ := (scan_spec b last l (x.1, true)).1 rfl
        have hex : ∃ q ∈ x :: l, q.1 = (l.foldl (scanR b last) (x.1, true)).1 ∧ Cond b last q := by
          rcases a3 with h | ⟨q, hq, h⟩
          · exact ⟨x, List.mem_cons_self, h.symm, hc⟩
          · exact ⟨q, List.mem_cons_of_mem _ hq, h⟩
        have hall : ∀ q ∈ x :: l, Cond b last q → (l.foldl (scanR b last) (x.1, true)).1 ≤ q.1 := fun q hq hcq => by
          rcases List.mem_cons.1 hq with rfl | hq
          · exact a2
          · exact a4 q hq hcq
        refine ⟨fun hs' => ⟨a1, ?_, .inr hex, hall⟩, fun _ => .inr ⟨a1, hex, hall⟩⟩
        rcases hs with h | h
        · rw [hs'] at h; cases h
        · change _ ≤ x.1 at a2
          omega
      · have e : scanR b last s x = s := by rw [scanR, if_neg (fun h => hs h.2)]
        rw [e]
        have h2 : s.2 = true := by cases h : s.2 with | true => rfl | false => exact absurd (.inl h) hs
        have h3 : ¬ x.1 < s.1 := fun h => hs (.inr h)
        refine ⟨fun _ => ?_, fun h => by rw [h2] at h; cases h⟩
        obtain ⟨a1, a2, a3, a4⟩ := (scan_spec b last l s).1 h2
        refine ⟨a1, a2, a3.imp id (fun ⟨q, hq, h⟩ => ⟨q, List.mem_cons_of_mem _ hq, h⟩), fun q hq hcq => ?_⟩
        rcases List.mem_cons.1 hq with rfl | hq
        · omega
        · exact a4 q hq hcq
    · have e : scanR b last s x = s := by rw [scanR, if_neg (fun h => hc h.1)]
      rw [e]
      obtain ⟨p1, p2⟩ := scan_spec b last l s
      refine ⟨fun h => ?_, fun h => ?_⟩
      · obtain ⟨a1, a2, a3, a4⟩ := p1 h
        refine ⟨a1, a2, a3.imp id (fun ⟨q, hq, h⟩ => ⟨q, List.mem_cons_of_mem _ hq, h⟩), fun q hq hcq => ?_⟩
        rcases List.mem_cons.1 hq with rfl | hq
        · exact absurd hcq hc
        · exact a4 q hq hcq
      · rcases p2 h with ⟨a1, a2⟩ | ⟨a1, ⟨q, hq, hq2⟩, a4⟩
        · refine .inl ⟨a1, fun q hq => ?_⟩
          rcases List.mem_cons.1 hq with rfl | hq
          · exact hc
          · exact a2 q hq
        · refine .inr ⟨a1, ⟨q, List.mem_cons_of_mem _ hq, hq2⟩, fun q hq hcq => ?_⟩
          rcases List.mem_cons.1 hq with rfl | hq
          · exact absurd hcq hc
          · exact a4 q hq hcq

def long (c : List Int) : Bool := decide (1 < c.length)
def doneL (l : List Move) (b : Bool) (last : Int) : List (List Int) := ((l.filter fun q => b && decide (q.1 ≤ last)).map fun q => aroundR l q.1).filter long
/-- The circles of moves, in some order. -/
def circR (l : List Move) : List (List Int) := (l.map fun q => aroundR l q.1).filter long
def cntC (l : List Move) (b : Bool) (last : Int) : Nat := (l.filter fun q => !b || decide (last < q.1)).length

theorem cnt_lt {l : List Move} {b : Bool} {last x : Int} (hx : ∃ q ∈ l, q.1 = x ∧ Cond b last q) : cntC l true x < cntC l b last := by
  obtain ⟨q, hq, rfl, hc⟩ := hx
  have e : (l.filter fun p => !true || decide (q.1 < p.1)) = (l.filter fun p => !b || decide (last < p.1)).filter fun p => decide (q.1 < p.1) := by
    rw [List.filter_filter]
    refine List.filter_congr fun p _ => ?_
    rcases hc with h | h
    · subst h; simp
    · by_cases h2 : q.1 < p.1
      · have : last < p.1 := by omega
        simp [h2, this]
      · simp [h2]
  rw [cntC, e, cntC]
  refine List.length_filter_lt_length_iff_exists.2 ⟨q, List.mem_filter.2 ⟨hq, ?_⟩, by simp⟩
  rcases hc with h | h <;> simp [h]

theorem done_all {l : List Move} {b : Bool} {last : Int} (h : ∀ q ∈ l, ¬ Cond b last q) : doneL l b last = circR l := by
  rw [doneL, circR]
  congr 2
  refine List.filter_eq_self.2 fun q hq => ?_
  have := h q hq
  unfold Cond at this
  cases b with
  | false => exact absurd (.inl rfl) this
  | true =>
    have : ¬ last < q.1 := fun h => this (.inr h)
    simp; omega

theorem done_step {l : List Move} (hn : (l.map (·.1)).Nodup) {b : Bool} {last x : Int} (hx : ∃ q ∈ l, q.1 = x ∧ Cond b last q) (hmin : ∀ q ∈ l, Cond b last q → x ≤ q.1) :
    (doneL l true x).Perm (doneL l b last ++ if long (aroundR l x) then [aroundR l x] else []) := by
  obtain ⟨q, hq, rfl, hc⟩ := hx
  have hnl : l.Nodup := (List.pairwise_map.1 hn).imp fun h e => h (by rw [e])
  have hp : (l.filter fun p => true && decide (p.1 ≤ q.1)).Perm ((l.filter fun p => b && decide (p.1 ≤ last)) ++ [q]) := by
    refine (List.perm_ext_iff_of_nodup (hnl.filter _) ?_).2 fun p => ?_
    · rw [List.nodup_append]
      refine ⟨hnl.filter _, by simp, fun a ha c hc' e => ?_⟩
      obtain ⟨_, h2⟩ := List.mem_filter.1 ha
      rw [List.mem_singleton] at hc'
      rw [e, hc'] at h2
      simp at h2
      rcases hc with h | h
      · rw [h] at h2; cases h2.1
      · omega
    · rw [List.mem_append, List.mem_filter, List.mem_filter, List.mem_singleton]
      simp only [Bool.true_and, decide_eq_true_eq, Bool.and_eq_true]
      constructor
      · rintro ⟨h1, h2⟩
        by_cases hcp : Cond b last p
        · right
          have := hmin p h1 hcp
          exact uniq hn h1 hq (by omega)
        · left
          unfold Cond at hcp
          cases b with
          | false => exact absurd (.inl rfl) hcp
          | true => exact ⟨h1, rfl, Int.not_lt.1 fun h => hcp (.inr h)⟩
      · rintro (⟨h1, h2, h3⟩ | rfl)
        · refine ⟨h1, ?_⟩
          rcases hc with h | h
          · rw [h] at h2; cases h2
          · omega
        · exact ⟨hq, Int.le_refl _⟩
  have := ((hp.map fun q => aroundR l q.1).filter long)
  rw [List.map_append, List.filter_append] at this
  refine this.trans (List.Perm.append_left _ ?_)
  simp only [List.map_cons, List.map_nil, List.filter_cons, List.filter_nil]
  exact List.Perm.refl _

theorem doneC_len (l : List Move) (b : Bool) (last : Int) : (doneL l b last).length ≤ l.length :=
  Nat.le_trans (List.length_filter_le _ _) (by rw [List.length_map]; exact List.length_filter_le _ _)

def tr16 : Nat → DT
  | _ => .stop

set_option maxHeartbeats 4000000 in
theorem circlesR_ct (yl : Nat) (fl : Bool) (l : List Move) (hl : l.length ≤ 1000) (hnd : (l.map (·.1)).Nodup) : CT Try.prog (Cx.plain yl) noAr 16 [vM fl l] [] (fun o H => ∃ cs, cs.Perm (circR l) ∧ o = .ret (vL false cs) ∧ H = []) := by
  obtain ⟨dL, hdL⟩ := decL_ex
  refine CT_of_W (tab := tabN dL) (D := []) (tr := tr16) Try.func16 (by kernel_rfl) rfl (tabN_ok dL) (Cx.plain_ok _ _) (by kernel_rfl) (fun z S R hz hS hR => ?_)
  cbv
  refine tri_loop hS (Cx.plain_ok _ _) (Nat.le_refl _) (fun m env H => ∃ (n : Nat) (outs : List (List Int)) (last : Int) (b : Bool), n = outs.length ∧ outs.Perm (doneL l b last) ∧ m = cntC l b last ∧
      env = mkE 59 [(0, vM fl l), (3, .ref 0 1 0 n), (4, .int .i64 last), (5, .bool b)] ∧ H = [.arr 23 (elN dL) outs]) (cntC l false 0)
    (.trans (.keep [0, 3, 4, 5]) (.own 3 23 (elN_ok dL) rfl)) (Nat.zero_le _) ⟨0, [], 0, false, rfl, (by simp [doneL]), rfl, rfl, rfl⟩ ?_
  rintro m env H ⟨n, outs, last, b, hn, hperm, rfl, rfl, rfl⟩ hh
  refine T_of_W (tab := tabN dL) (D := []) (tr := tr16) (tabN_ok dL) (Cx.plain_ok _ _) (by kernel_rfl) hh (fun z1 S1 Q1 hz1 hS1 hQ1 => ?_)
  have hnl : n ≤ l.length := by rw [hn, hperm.length_eq]; exact doneC_len _ _ _
  cbv
  refine tri_loop hS1 (Cx.plain_ok _ _) (Nat.zero_le _) (fun m env H => ∃ (i : Nat) (x : Int) (sm : Bool), i ≤ l.length ∧ m = l.length - i ∧ (x, sm) = (l.take i).foldl (scanR b last) (0, false) ∧
      env = mkE 59 [(0, vM fl l), (3, .ref 0 1 0 n), (4, .int .i64 last), (5, .bool b), (6, .int .i64 x), (7, .bool sm), (8, .int .i64 i)] ∧ H = [.arr 23 (elN dL) outs]) l.length
    (.keep [0, 3, 4, 5, 6, 7, 8]) (Nat.zero_le _) ⟨0, 0, false, Nat.zero_le _, rfl, rfl, rfl, rfl⟩ ?_
  rintro m env H ⟨i, x, sm, hi, rfl, hsc, rfl, rfl⟩ hh
  refine T_of_W (tab := tabN dL) (D := []) (tr := tr16) (tabN_ok dL) (Cx.plain_ok _ _) (by kernel_rfl) hh (fun z' S' Q' hz' hS' hQ => ?_)
  have hspec := scan_spec b last l (0, false)
  cbv
  rcases h1 : z' .lt (Int.ofNat i) (S' .len (Int × Int) l) with _ | _
  · have e : l.take i = l := by
      rw [hz', hS'] at h1
      have : ¬ (i : Int) < (l.length : Int) := of_decide_eq_false h1
      exact List.take_of_length_le (by omega)
    rw [e] at hsc
    rw [← hsc] at hspec
    cbv
    apply hQ
    clear hQ
    cbv
    cases sm with
    | false =>
      cbv
      have hno : ∀ q ∈ l, ¬ Cond b last q := by
        rcases hspec.2 rfl with ⟨_, h⟩ | ⟨h, _⟩
        · exact h
        · cases h
      apply hQ1
      cbv
      refine hR _ _ _ _ (.trans (.freeze 0 rfl) (.drop 0 rfl (Nat.zero_le _))) ⟨outs, by rw [← done_all hno]; exact hperm, ?_, rfl⟩
      show Out.ret (vL false (outs.take n)) = _
      rw [hn, List.take_length]
    | true =>
      cbv
      obtain ⟨hex, hmin⟩ : (∃ q ∈ l, q.1 = x ∧ Cond b last q) ∧ ∀ q ∈ l, Cond b last q → x ≤ q.1 := by
        rcases hspec.2 rfl with ⟨h, _⟩ | ⟨_, h⟩
        · cases h
        · exact h
      have hlt := cnt_lt hex
      have hstep := done_step hnd hex hmin
      refine use_ct [] hS1 (Cx.plain_ok _ _) rfl (fun yl => around_ct yl fl l x hl) (may_none []) ?_
      rintro o h' ⟨c, hc, rfl, rfl⟩
      rw [← hc] at hstep
      cbv
      rcases h3 : z1 .lt 1 (S1 .len Int c) with _ | _
      · have h3' : long c = false := by
          rw [hz1, hS1] at h3
          have : ¬ (1 : Int) < (c.length : Int) := of_decide_eq_false h3
          unfold long; simp; omega
        cbv
        apply hQ1
        refine ⟨_, _, _, hlt, .keep [0, 3, 4, 5], n, outs, x, true, hn, ?_, rfl, rfl, rfl⟩
        rw [h3', if_neg (by decide), List.append_nil] at hstep
        exact hperm.trans hstep.symm
      · have h3' : long c = true := by
          rw [hz1, hS1] at h3
          have : (1 : Int) < (c.length : Int) := of_decide_eq_true h3
          unfold long; simp; omega
        cbv
        refine ⟨congrArg (fun a => [a]) (congrArg encL (hdL c)), by rw [hz1]; show n + 1 ≤ 1000000; omega, by rw [hS1]; exact fun k hk => absurd hk (Nat.not_lt_zero _), ?_⟩
        apply hQ1
        refine ⟨_, _, _, hlt, .keep [0, 3, 4, 5], n + 1, outs ++ [c], x, true, by simp [hn], ?_, rfl, by rw [hz1]; rfl, ?_⟩
        · rw [h3', if_pos rfl] at hstep
          exact (hperm.append_right _).trans hstep.symm
        · rw [hS1]
          show [Blk.arr 23 (elN dL) ((outs.take n).drop 0 ++ [dL (encL c)])] = _
          rw [hn, List.take_length, hdL]; rfl
  · have hlt : i < l.length := by
      rw [hz', hS'] at h1
      have : (i : Int) < (l.length : Int) := of_decide_eq_true h1
      omega
    have hst := fold_take (scanR b last) (0, false) l (0, 0) hlt
    have einc : z' .ar .add .i64 (Int.ofNat i) 1 = Int.ofNat (i + 1) := by rw [hz']; exact rz_inc i (by omega)
    have eat : S' .at_ (Int × Int) (0, 0) l (z' .nat (Int.ofNat i)) = l.getD i (0, 0) := by rw [hS', hz']; rfl
    have hidx : S' .idx (Int × Int) l (Int.ofNat i) := by rw [hS']; simp [reals]; omega
    rw [← hsc] at hst
    generalize l.getD i (0, 0) = q at hst eat
    obtain ⟨to, frm⟩ := q
    have fin : ∀ env' x' sm', (x', sm') = scanR b last (x, sm) (to, frm) → keepE [0, 3, 4, 5, 6, 7, 8] env' = mkE 59 [(0, vM fl l), (3, .ref 0 1 0 n), (4, .int .i64 last), (5, .bool b), (6, .int .i64 x'), (7, .bool sm'), (8, .int .i64 (Int.ofNat (i + 1)))] →
        Q' .norm env' [.arr 23 (elN dL) outs] := fun env' x' sm' h he => by
      apply hQ
      exact ⟨_, _, _, by omega, .keep [0, 3, 4, 5, 6, 7, 8], i + 1, x', sm', hlt, rfl, by rw [hst]; exact h, he, rfl⟩
    clear hQ hspec hsc hR hQ1
    have clt : ∀ a b, z' .lt a b = decide (a < b) := fun a b => by rw [hz']; rfl
    cases b with
    | false =>
      cases sm with
      | false =>
        cbv
        refine ⟨hidx, ?_⟩
        rw [eat]
        cbv
        rw [einc]
        exact fin _ to true (by rw [scanR, if_pos ⟨.inl rfl, .inl rfl⟩]) rfl
      | true =>
        cbv
        refine ⟨hidx, ?_⟩
        rw [eat]
        cbv
        rcases h5 : z' .lt to x with _ | _
        · have h5' : ¬ to < x := by rw [hz'] at h5; exact of_decide_eq_false h5
          cbv
          rw [einc]
          exact fin _ x true (by rw [scanR, if_neg (fun h => h.2.elim (fun h => by cases h) h5')]) rfl
        · have h5' : to < x := by rw [hz'] at h5; exact of_decide_eq_true h5
          cbv
          refine ⟨hidx, ?_⟩
          rw [eat]
          cbv
          rw [einc]
          exact fin _ to true (by rw [scanR, if_pos ⟨.inl rfl, .inr h5'⟩]) rfl
    | true =>
      cbv
      refine ⟨hidx, ?_⟩
      rw [eat]
      cbv
      rcases h6 : z' .lt last to with _ | _
      · have h6' : ¬ last < to := by rw [hz'] at h6; exact of_decide_eq_false h6
        cbv
        rw [einc]
        exact fin _ x sm (by rw [scanR, if_neg (fun h => h.1.elim (fun h => by cases h) h6')]) rfl
      · have h6' : last < to := by rw [hz'] at h6; exact of_decide_eq_true h6
        cases sm with
        | false =>
          cbv
          refine ⟨hidx, ?_⟩
          rw [eat]
          cbv
          rw [einc]
          exact fin _ to true (by rw [scanR, if_pos ⟨.inr h6', .inl rfl⟩]) rfl
        | true =>
          cbv
          refine ⟨hidx, ?_⟩
          rw [eat]
          cbv
          rcases h5 : z' .lt to x with _ | _
          · have h5' : ¬ to < x := by rw [hz'] at h5; exact of_decide_eq_false h5
            cbv
            rw [einc]
            exact fin _ x true (by rw [scanR, if_neg (fun h => h.2.elim (fun h => by cases h) h5')]) rfl
          · have h5' : to < x := by rw [hz'] at h5; exact of_decide_eq_true h5
            cbv
            refine ⟨hidx, ?_⟩
            rw [eat]
            cbv
            rw [einc]
            exact fin _ to true (by rw [scanR, if_pos ⟨.inr h6', .inr h5'⟩]) rfl
end Go.Ab
