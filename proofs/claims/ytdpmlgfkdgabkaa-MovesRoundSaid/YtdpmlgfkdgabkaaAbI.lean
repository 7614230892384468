/- Contracts of the program's functions over an abstract state, and what they rest on: part AbI. No condition. -/
import Derived.Test.YtdpmlgfkdgabkaaAbH
import Derived.Test.YtdpmlgfkdgabkaaAbF
import Derived.Shelf.SortM.Plain
import Derived.Shelf.SortM.SortNone
import Derived.Sort.OwnSortedInts
import Derived.Ground.SlgmProg
import Derived.Test.YtdpmlgfkdgabkaaProg
import Derived.Test.YtdpmlgfkdgabkaaAbD
set_option linter.unusedVariables false
set_option linter.unusedSimpArgs false

/- The program: searching, deleting (printed by wip/tools/genidx.py). -/
namespace Go.Ab
open Go.Proofs

def IdxOf (f : Int → Bool) (n : Nat) (xs : List Int) (r : Int) : Prop :=
  (r = -1 ∧ ∀ j, j < n → f (xs.getD j 0) = false) ∨ ∃ i : Nat, r = Int.ofNat i ∧ i < n ∧ f (xs.getD i 0) = true ∧ ∀ j, j < i → f (xs.getD j 0) = false

theorem index36_ct (yl : Nat) (n : Nat) (xs : List Int) (u : List (Int × Int)) (hn : n ≤ xs.length) (hl : n ≤ 100000) : CT Try.prog (Cx.plain yl) noAr 35 [.ref 0 1 0 n, .fn 36 [] [.ptr 1 0]] [.arr 3 elI xs, .cells [.mp 2], .map mII u]
    (fun o H => ∃ r, IdxOf (fun p => getI u p == 0) n xs r ∧ o = .ret (.int .i64 r) ∧ H = [.arr 3 elI xs, .cells [.mp 2], .map mII u]) := by
  refine CT_of_W (tab := tabM) (D := []) (tr := noTr) Try.func35 (by kernel_rfl) rfl tabM_ok (Cx.plain_ok _ _) (by kernel_rfl) (fun z S R hz hS hR => ?_)
  have hR' : ∀ r : Int, IdxOf (fun p => getI u p == 0) n xs r → R [.int .i64 r] [.arr 3 elI xs, .cells [.mp 2], .map mII u] := fun r h => hR _ _ _ _ (Wk.refl _ _) ⟨r, h, rfl, rfl⟩
  cbv
  refine tri_loop hS (Cx.plain_ok _ _) (Nat.le_refl _) (fun m env H => ∃ i : Nat, i ≤ n ∧ m = n - i ∧ (∀ j, j < i → (fun p => getI u p == 0) (xs.getD j 0) = false) ∧
      env = mkE 19 [(0, .ref 0 1 0 n), (1, .fn 36 [] [.ptr 1 0]), (7, .int .i64 n), (8, .int .i64 i)] ∧ H = [.arr 3 elI xs, .cells [.mp 2], .map mII u]) n
    (.keep [0, 1, 7, 8]) (Nat.le_refl _) ⟨0, Nat.zero_le _, rfl, fun j h => absurd h (Nat.not_lt_zero _), rfl, rfl⟩ ?_
  rintro m env H ⟨i, hi, rfl, hno, rfl, rfl⟩ hh
  refine T_of_W (tab := tabM) (D := []) (tr := noTr) tabM_ok (Cx.plain_ok _ _) (by kernel_rfl) hh (fun z' S' Q' hz' hS' hQ => ?_)
  cbv
  rcases h1 : z' .lt (Int.ofNat i) (Int.ofNat n) with _ | _
  · have h1' : ¬ i < n := by
      rw [hz'] at h1
      have : ¬ (i : Int) < (n : Int) := of_decide_eq_false h1
      omega
    cbv
    apply hQ
    cbv
    exact hR' _ (.inl ⟨rfl, fun j hj => hno j (by omega)⟩)
  · have h1' : i < n := by
      rw [hz'] at h1
      have : (i : Int) < (n : Int) := of_decide_eq_true h1
      omega
    have eix : z' .add 0 (z' .nat (Int.ofNat i)) = i := by rw [hz']; exact Nat.zero_add i
    have eat : S' .at_ elI.α elI.d xs i = xs.getD i 0 := by rw [hS']; rfl
    have einc : z' .ar .add .i64 (Int.ofNat i) 1 = Int.ofNat (i + 1) := by rw [hz']; exact rz_inc i (by omega)
    cbv
    refine ⟨by rw [hz']; exact ⟨Int.natCast_nonneg _, Int.ofNat_lt.2 h1'⟩, ?_⟩
    rw [eix, eat]
    have hnext : ∀ b, (fun p => getI u p == 0) (xs.getD i 0) = b → b = false → ∀ j, j < i + 1 → (fun p => getI u p == 0) (xs.getD j 0) = false := fun b hb h j hj => by
      rcases Nat.lt_or_ge j i with h2 | h2
      · exact hno j h2
      · have : j = i := by omega
        rw [this, hb, h]
    have hfound : (fun p => getI u p == 0) (xs.getD i 0) = true → IdxOf (fun p => getI u p == 0) n xs (Int.ofNat i) := fun h => .inr ⟨i, rfl, h1', h, hno⟩
    generalize xs.getD i 0 = v at hnext hfound ⊢
    refine use_ct [1, 2] hS' (Cx.plain_ok _ _) rfl (fun yl => unused_ct yl u v) (may_none [1, 2]) ?_
    rintro o h' ⟨rfl, rfl⟩
    generalize hb : ((fun p => getI u p == 0) v) = b at hnext hfound
    have hb' : ((fun p => getI u p == 0) v) = b := hb
    simp only [] at hb'
    rw [hb']
    cases b with
    | true =>
      cbv
      apply hQ
      cbv
      exact hR' _ (hfound rfl)
    | false =>
      cbv
      apply hQ
      rw [einc]
      exact ⟨_, _, _, by omega, .keep [0, 1, 7, 8], i + 1, h1', rfl, hnext _ rfl rfl, rfl, rfl⟩


theorem index34_ct (yl : Nat) (n : Nat) (xs : List Int) (p : Int) (hn : n ≤ xs.length) (hl : n ≤ 100000) : CT Try.prog (Cx.plain yl) noAr 35 [.ref 0 1 0 n, .fn 34 [] [.ptr 1 0]] [.arr 3 elI xs, .cells [.int .i64 p]]
    (fun o H => ∃ r, IdxOf (fun q => q == p) n xs r ∧ o = .ret (.int .i64 r) ∧ H = [.arr 3 elI xs, .cells [.int .i64 p]]) := by
  refine CT_of_W (tab := tabM) (D := []) (tr := noTr) Try.func35 (by kernel_rfl) rfl tabM_ok (Cx.plain_ok _ _) (by kernel_rfl) (fun z S R hz hS hR => ?_)
  have hR' : ∀ r : Int, IdxOf (fun q => q == p) n xs r → R [.int .i64 r] [.arr 3 elI xs, .cells [.int .i64 p]] := fun r h => hR _ _ _ _ (Wk.refl _ _) ⟨r, h, rfl, rfl⟩
  cbv
  refine tri_loop hS (Cx.plain_ok _ _) (Nat.le_refl _) (fun m env H => ∃ i : Nat, i ≤ n ∧ m = n - i ∧ (∀ j, j < i → (fun q => q == p) (xs.getD j 0) = false) ∧
      env = mkE 19 [(0, .ref 0 1 0 n), (1, .fn 34 [] [.ptr 1 0]), (7, .int .i64 n), (8, .int .i64 i)] ∧ H = [.arr 3 elI xs, .cells [.int .i64 p]]) n
    (.keep [0, 1, 7, 8]) (Nat.le_refl _) ⟨0, Nat.zero_le _, rfl, fun j h => absurd h (Nat.not_lt_zero _), rfl, rfl⟩ ?_
  rintro m env H ⟨i, hi, rfl, hno, rfl, rfl⟩ hh
  refine T_of_W (tab := tabM) (D := []) (tr := noTr) tabM_ok (Cx.plain_ok _ _) (by kernel_rfl) hh (fun z' S' Q' hz' hS' hQ => ?_)
  cbv
  rcases h1 : z' .lt (Int.ofNat i) (Int.ofNat n) with _ | _
  · have h1' : ¬ i < n := by
      rw [hz'] at h1
      have : ¬ (i : Int) < (n : Int) := of_decide_eq_false h1
      omega
    cbv
    apply hQ
    cbv
    exact hR' _ (.inl ⟨rfl, fun j hj => hno j (by omega)⟩)
  · have h1' : i < n := by
      rw [hz'] at h1
      have : (i : Int) < (n : Int) := of_decide_eq_true h1
      omega
    have eix : z' .add 0 (z' .nat (Int.ofNat i)) = i := by rw [hz']; exact Nat.zero_add i
    have eat : S' .at_ elI.α elI.d xs i = xs.getD i 0 := by rw [hS']; rfl
    have einc : z' .ar .add .i64 (Int.ofNat i) 1 = Int.ofNat (i + 1) := by rw [hz']; exact rz_inc i (by omega)
    cbv
    refine ⟨by rw [hz']; exact ⟨Int.natCast_nonneg _, Int.ofNat_lt.2 h1'⟩, ?_⟩
    rw [eix, eat]
    have hnext : ∀ b, (fun q => q == p) (xs.getD i 0) = b → b = false → ∀ j, j < i + 1 → (fun q => q == p) (xs.getD j 0) = false := fun b hb h j hj => by
      rcases Nat.lt_or_ge j i with h2 | h2
      · exact hno j h2
      · have : j = i := by omega
        rw [this, hb, h]
    have hfound : (fun q => q == p) (xs.getD i 0) = true → IdxOf (fun q => q == p) n xs (Int.ofNat i) := fun h => .inr ⟨i, rfl, h1', h, hno⟩
    generalize xs.getD i 0 = v at hnext hfound ⊢
    refine use_ct [1] hS' (Cx.plain_ok _ _) rfl (fun yl => equal_ct yl p v) (may_none [1]) ?_
    rintro o h' ⟨rfl, rfl⟩
    generalize hb : ((fun q => q == p) v) = b at hnext hfound
    have hb' : ((fun q => q == p) v) = b := hb
    simp only [] at hb'
    rw [hb']
    cases b with
    | true =>
      cbv
      apply hQ
      cbv
      exact hR' _ (hfound rfl)
    | false =>
      cbv
      apply hQ
      rw [einc]
      exact ⟨_, _, _, by omega, .keep [0, 1, 7, 8], i + 1, h1', rfl, hnext _ rfl rfl, rfl, rfl⟩

end Go.Ab

/- The program: deleting; what is done behind a move. -/
namespace Go.Ab
open Go.Proofs

def keepNe (p : Int) (l : List Int) : List Int := l.filter fun q => q != p

theorem take_succ_getD {l : List Int} {i : Nat} (h : i < l.length) : l.take (i + 1) = l.take i ++ [l.getD i 0] := by
  rw [List.take_add_one, List.getElem?_eq_getElem h, List.getD_eq_getElem?_getD, List.getElem?_eq_getElem h]; rfl

theorem keepNe_all {p : Int} {l : List Int} {n : Nat} (hn : n ≤ l.length) (h : ∀ j, j < n → (l.getD j 0 == p) = false) : keepNe p (l.take n) = l.take n := by
  rw [keepNe, List.filter_eq_self]
  intro a ha
  obtain ⟨j, hj⟩ := List.mem_iff_getElem?.1 ha
  have hlt : j < n := by
    have := (List.getElem?_eq_some_iff.1 hj).1
    rw [List.length_take] at this; omega
  have := h j hlt
  rw [List.getElem?_take, if_pos hlt] at hj
  rw [List.getD_eq_getElem?_getD, hj] at this
  simpa [bne] using this

set_option maxHeartbeats 1000000 in
theorem delete_ct (yl : Nat) (n : Nat) (xs : List Int) (p : Int) (hn : n ≤ xs.length) (hl : n ≤ 100000) : CT Try.prog (Cx.plain yl) noAr 33 [.ref 0 1 0 n, .fn 34 [] [.ptr 1 0]] [.arr 3 elI xs, .cells [.int .i64 p]]
    (fun o H => ∃ n' ys, n' = (keepNe p (xs.take n)).length ∧ ys.take n' = keepNe p (xs.take n) ∧ ys.length = xs.length ∧ o = .ret (.ref 0 1 0 n') ∧ H = [.arr 3 elI ys, .cells [.int .i64 p]]) := by
  refine CT_of_W (tab := tabM) (D := []) (tr := noTr) Try.func33 (by kernel_rfl) rfl tabM_ok (Cx.plain_ok _ _) (by kernel_rfl) (fun z S R hz hS hR => ?_)
  have hR' : ∀ (n' : Nat) (ys : List Int), n' = (keepNe p (xs.take n)).length → ys.take n' = keepNe p (xs.take n) → ys.length = xs.length → R [.ref 0 1 0 n'] [.arr 3 elI ys, .cells [.int .i64 p]] := fun n' ys a b c =>
    hR _ _ _ _ (Wk.refl _ _) ⟨n', ys, a, b, c, rfl, rfl⟩
  cbv
  refine use_ct [0, 1] hS (Cx.plain_ok _ _) rfl (fun yl => index34_ct yl n xs p hn hl) (may_none [0, 1]) ?_
  rintro o h' ⟨r, hr, rfl, rfl⟩
  cbv
  rcases h1 : z .eq r (-1) with _ | _
  · have h1' : r ≠ -1 := by rw [hz] at h1; exact beq_eq_false_iff_ne.1 h1
    rcases hr with ⟨e, _⟩ | ⟨i0, hr, hi0, hp0, hno⟩
    · exact absurd e h1'
    have einc0 : z .ar .add .i64 r 1 = Int.ofNat (i0 + 1) := by rw [hz, hr]; exact rz_inc i0 (by omega)
    cbv
    rw [einc0]
    have hfirst : keepNe p (xs.take (i0 + 1)) = xs.take i0 := by
      rw [take_succ_getD (by omega), keepNe, List.filter_append]
      have h2 := keepNe_all (p := p) (n := i0) (l := xs) (by omega) hno
      rw [keepNe] at h2
      have : p = xs.getD i0 0 := by simpa using (beq_iff_eq.1 hp0).symm
      rw [h2, this]; simp
    refine tri_loop hS (Cx.plain_ok _ _) (Nat.le_refl _) (fun m env H => ∃ (i j : Nat) (iv jv : Int) (ys : List Int), iv = Int.ofNat i ∧ jv = Int.ofNat j ∧ j ≤ n ∧ i < j ∧ ys.length = xs.length ∧ ys.take i = keepNe p (xs.take j) ∧ (∀ k, j ≤ k → ys.getD k 0 = xs.getD k 0) ∧ m = n - j ∧
        env = mkE 42 [(0, .ref 0 1 0 n), (1, .fn 34 [] [.ptr 1 0]), (5, .int .i64 iv), (6, .int .i64 jv)] ∧ H = [.arr 3 elI ys, .cells [.int .i64 p]]) (n - (i0 + 1))
      (.keep [0, 1, 5, 6]) (Nat.le_refl _) ⟨i0, i0 + 1, r, Int.ofNat (i0 + 1), xs, hr, rfl, hi0, by omega, rfl, hfirst.symm, fun _ _ => rfl, rfl, rfl, rfl⟩ ?_
    rintro m env H ⟨i, j, iv, jv, ys, hiv, hjv, hj, hij, hlen, htake, hrest, rfl, rfl, rfl⟩ hh
    refine T_of_W (tab := tabM) (D := []) (tr := noTr) tabM_ok (Cx.plain_ok _ _) (by kernel_rfl) hh (fun z' S' Q' hz' hS' hQ => ?_)
    cbv
    rcases h2 : z' .lt jv (Int.ofNat n) with _ | _
    · have h2' : j = n := by
        rw [hz', hjv] at h2
        have : ¬ (j : Int) < (n : Int) := of_decide_eq_false h2
        omega
      subst h2'
      have hni : z .nat iv = i := by rw [hz, hiv]; rfl
      have hadd : z .add 0 i = i := by rw [hz]; exact Nat.zero_add i
      have hrng : z .rng 0 iv (Int.ofNat j) := by rw [hz, hiv]; exact ⟨Int.natCast_nonneg _, Int.ofNat_le.2 (Nat.le_of_lt hij)⟩
      have fin : ∀ L : List Int, L = ys.take i ++ (List.replicate (j - i) 0 ++ ys.drop j) → R [.ref 0 1 0 i] [.arr 3 elI L, .cells [.int .i64 p]] := fun L hL => by
        have hi1 : (ys.take i).length = i := by rw [List.length_take]; omega
        refine hR' i L (by rw [← htake, hi1]) ?_ ?_
        · rw [hL, List.take_append_of_le_length (by omega), List.take_of_length_le (by omega), htake]
        · rw [hL]; simp [hi1]; omega
      cbv
      apply hQ
      cbv
      rw [hni, hadd]
      cbv
      refine ⟨hrng, hrng, fin _ ?_⟩
      rw [hz, hS]
      have e : (ys.take i).drop 0 ++ (List.replicate (j - i) (0 : Int) ++ (ys.take ys.length).drop (i + (j - i))) = ys.take i ++ (List.replicate (j - i) 0 ++ ys.drop j) := by
        rw [List.take_length, show i + (j - i) = j by omega]; rfl
      exact e
    · have h2' : j < n := by
        rw [hz', hjv] at h2
        have : (j : Int) < (n : Int) := of_decide_eq_true h2
        omega
      have eix : z' .add 0 (z' .nat jv) = j := by rw [hz', hjv]; exact Nat.zero_add j
      have eii : z' .add 0 (z' .nat iv) = i := by rw [hz', hiv]; exact Nat.zero_add i
      have eat : S' .at_ elI.α elI.d ys j = xs.getD j 0 := by rw [hS', ← hrest j (Nat.le_refl _)]; rfl
      have ejnc : z' .ar .add .i64 jv 1 = Int.ofNat (j + 1) := by rw [hz', hjv]; exact rz_inc j (by omega)
      have einc : z' .ar .add .i64 iv 1 = Int.ofNat (i + 1) := by rw [hz', hiv]; exact rz_inc i (by omega)
      have hix : z' .ixn n jv := by rw [hz', hjv]; exact ⟨Int.natCast_nonneg _, Int.ofNat_lt.2 h2'⟩
      have hii : z' .ixn n iv := by rw [hz', hiv]; exact ⟨Int.natCast_nonneg _, Int.ofNat_lt.2 (Nat.lt_trans hij h2')⟩
      have hk : keepNe p (xs.take (j + 1)) = keepNe p (xs.take j) ++ if xs.getD j 0 == p then [] else [xs.getD j 0] := by
        rw [take_succ_getD (Nat.lt_of_lt_of_le h2' hn), keepNe, List.filter_append]
        congr 1
        cases h : xs.getD j 0 == p <;> simp only [List.filter_cons, List.filter_nil, bne, h] <;> rfl
      cbv
      refine ⟨hix, ?_⟩
      rw [eix, eat]
      have hset : S' .set elI.α ys i (xs.getD j 0) = ys.set i (xs.getD j 0) := by rw [hS']; rfl
      generalize xs.getD j 0 = v at hk hset ⊢
      refine use_ct [1] hS' (Cx.plain_ok _ _) rfl (fun yl => equal_ct yl p v) (may_none [1]) ?_
      rintro o h' ⟨rfl, rfl⟩
      generalize (v == p) = b at hk ⊢
      cases b with
      | true =>
        cbv
        rw [ejnc]
        apply hQ
        exact ⟨_, _, _, by omega, .keep [0, 1, 5, 6], i, j + 1, iv, _, ys, hiv, rfl, h2', by omega, hlen, by rw [hk, htake]; simp, fun k hk => hrest k (by omega), rfl, rfl, rfl⟩
      | false =>
        cbv
        rw [eii, ejnc, einc]
        refine ⟨hii, ?_⟩
        apply hQ
        refine ⟨_, _, _, by omega, .keep [0, 1, 5, 6], i + 1, j + 1, _, _, ys.set i v, rfl, rfl, h2', by omega, by rw [List.length_set, hlen], ?_, fun k hk => ?_, rfl, rfl, ?_⟩
        · rw [hk, ← htake, take_succ_getD (by rw [List.length_set]; omega), List.take_set, List.set_eq_of_length_le (by rw [List.length_take]; omega), List.getD_eq_getElem?_getD, List.getElem?_set_self (by omega)]; rfl
        · rw [← hrest k (by omega), List.getD_eq_getElem?_getD, List.getElem?_set, if_neg (by omega), List.getD_eq_getElem?_getD]
        · rw [← hset]; rfl
  · have h1' : r = -1 := by rw [hz] at h1; exact beq_iff_eq.1 h1
    rcases hr with ⟨_, hno⟩ | ⟨i, e, _⟩
    · have hk := keepNe_all hn hno
      cbv
      exact hR' n xs (by rw [hk, List.length_take]; omega) hk.symm rfl
    · rw [e] at h1'; cases h1'

/-- What is done behind a place that has been reached. -/
theorem gone_ct (yl : Nat) (n : Nat) (xs : List Int) (m u : List (Int × Int)) (p : Int) (hn : n ≤ xs.length) (hl : n ≤ 100000) (hb : -1000 ≤ getI u (getI m p) ∧ getI u (getI m p) ≤ 1000) :
    CT Try.prog (Cx.plain yl) noAr 32 [.int .i64 p, .ptr 0 0, .ptr 1 0, .ptr 2 0] [.cells [.mp 3], .cells [.mp 4], .cells [.ref 5 1 0 n], .map mII u, .map mII m, .arr 3 elI xs]
    (fun o H => ∃ n' ys u', u' = putI u (getI m p) (getI u (getI m p) - 1) ∧ n' = (keepNe p (xs.take n)).length ∧ ys.take n' = keepNe p (xs.take n) ∧ ys.length = xs.length ∧ o = .ret (.tuple []) ∧
      H = [.cells [.mp 3], .cells [.mp 4], .cells [.ref 5 1 0 n'], .map mII u', .map mII m, .arr 3 elI ys]) := by
  refine CT_of_W (tab := tabM) (D := []) (tr := noTr) Try.func32 (by kernel_rfl) rfl tabM_ok (Cx.plain_ok _ _) (by kernel_rfl) (fun z S R hz hS hR => ?_)
  have e1 : S .mget mII m (mII.kdec (.int .i64 p)) = getI m p := by rw [hS]; rfl
  generalize getI m p = q at e1 hb hR
  have e2 : S .mget mII u (mII.kdec (.int .i64 q)) = getI u q := by rw [hS]; rfl
  generalize getI u q = k at e2 hb hR
  have e3 : z .ar .sub .i64 k 1 = k - 1 := by rw [hz]; exact rz_sub (by omega) (by omega)
  have e4 : S .mput mII u (mII.kdec (.int .i64 q)) (mII.vdec (.int .i64 (k - 1))) = putI u q (k - 1) := by rw [hS]; rfl
  cbv
  rw [e1, e2, e3, e4]
  generalize hu' : putI u q (k - 1) = u'
  refine use_ct [5, 6] hS (Cx.plain_ok _ _) rfl (fun yl => delete_ct yl n xs p hn hl) (may_none [5, 6]) ?_
  rintro o h' ⟨n', ys, h1, h2, h3, rfl, rfl⟩
  cbv
  refine hR _ _ _ _ (.drop 6 rfl (Nat.le_refl _)) ⟨n', ys, u', hu'.symm, h1, h2, h3, rfl, rfl⟩
end Go.Ab

/- Plain: what the program keeps of the moves that are left, and what the reference keeps. -/
namespace Go.Ab

/-! ### Lists without doubles -/
theorem nodup_len : ∀ {a b : List Int}, a.Nodup → (∀ x ∈ a, x ∈ b) → a.length ≤ b.length
  | [], _, _, _ => Nat.zero_le _
  | x :: a, b, hn, hs => by
    have hn' := List.nodup_cons.1 hn
    have hx := hs x (by simp)
    have h := nodup_len (a := a) (b := b.erase x) hn'.2 (fun y hy => (List.mem_erase_of_ne (fun e : y = x => hn'.1 (e ▸ hy))).2 (hs y (by simp [hy])))
    rw [List.length_erase_of_mem hx] at h
    have := List.length_pos_of_mem hx
    simp only [List.length_cons]; omega

theorem nodup_perm : ∀ {a b : List Int}, a.Nodup → (∀ x ∈ a, x ∈ b) → b.length ≤ a.length → a.Perm b
  | [], b, _, _, hl => by
    have : b = [] := List.length_eq_zero_iff.1 (Nat.le_zero.1 hl)
    rw [this]
  | x :: a, b, hn, hs, hl => by
    have hn' := List.nodup_cons.1 hn
    have hx := hs x (by simp)
    have hle := List.length_erase_of_mem hx
    have h := nodup_perm (a := a) (b := b.erase x) hn'.2 (fun y hy => (List.mem_erase_of_ne (fun e : y = x => hn'.1 (e ▸ hy))).2 (hs y (by simp [hy])))
      (by rw [hle]; simp only [List.length_cons] at hl; omega)
    exact (h.cons x).trans (List.perm_cons_erase hx).symm

structure Rel (l : List Move) (left : List Int) (u m : List (Int × Int)) : Prop where
  nd : (l.map (·.1)).Nodup
  pos : ∀ q ∈ l, (0 ≤ q.1 ∧ q.1 < 16400) ∧ (0 ≤ q.2 ∧ q.2 < 16400)
  src : ∀ q ∈ l, getI m q.1 = q.2
  mem : ∀ p, p ∈ left ↔ ∃ q ∈ l, q.1 = p
  srt : left.Pairwise (· < ·)
  cnt : ∀ k, getI u k = ((l.filter fun q => q.2 == k).length : Int)

section
variable {l : List Move} {left : List Int} {u m : List (Int × Int)}

theorem uniq {a b : Move} (hn : (l.map (·.1)).Nodup) (ha : a ∈ l) (hb : b ∈ l) (h : a.1 = b.1) : a = b := by
  induction l with
  | nil => cases ha
  | cons x l ih =>
    have hn' := List.nodup_cons.1 (by simpa using hn : (x.1 :: l.map (·.1)).Nodup)
    rcases List.mem_cons.1 ha with rfl | ha' <;> rcases List.mem_cons.1 hb with rfl | hb'
    · rfl
    · exact (hn'.1 (List.mem_map.2 ⟨b, hb', h.symm⟩)).elim
    · exact (hn'.1 (List.mem_map.2 ⟨a, ha', h⟩)).elim
    · exact ih hn'.2 ha' hb'

theorem cnt_filter {q : Move} (hn : (l.map (·.1)).Nodup) (hq : q ∈ l) (k : Int) :
    ((l.filter fun x => x.1 != q.1).filter fun x => x.2 == k).length + (if q.2 = k then 1 else 0) = (l.filter fun x => x.2 == k).length := by
  induction l with
  | nil => cases hq
  | cons x l ih =>
    have hn' := List.nodup_cons.1 (by simpa using hn : (x.1 :: l.map (·.1)).Nodup)
    rcases List.mem_cons.1 hq with rfl | hq'
    · have hno : l.filter (fun x => x.1 != q.1) = l := List.filter_eq_self.2 fun y hy => by
        simp only [bne_iff_ne]
        exact fun e => hn'.1 (List.mem_map.2 ⟨y, hy, e⟩)
      rw [List.filter_cons_of_neg (by simp), hno]
      by_cases h : q.2 = k
      · rw [if_pos h, List.filter_cons_of_pos (by simpa using h)]; rfl
      · rw [if_neg h, List.filter_cons_of_neg (by simpa using h)]; rfl
    · have hne : x.1 ≠ q.1 := fun e => hn'.1 (List.mem_map.2 ⟨q, hq', e.symm⟩)
      have h := ih hn'.2 hq'
      rw [List.filter_cons_of_pos (by simpa using hne)]
      by_cases hk : x.2 = k
      · rw [List.filter_cons_of_pos (by simpa using hk), List.filter_cons_of_pos (by simpa using hk)]
        simp only [List.length_cons]; omega
      · rw [List.filter_cons_of_neg (by simpa using hk), List.filter_cons_of_neg (by simpa using hk)]
        exact h

theorem Rel.step (r : Rel l left u m) {p : Int} (hp : p ∈ left) : Rel (l.filter fun q => q.1 != p) (keepNe p left) (putI u (getI m p) (getI u (getI m p) - 1)) m := by
  obtain ⟨q, hq, rfl⟩ := (r.mem p).1 hp
  refine ⟨?_, fun a ha => r.pos a (List.mem_filter.1 ha).1, fun a ha => r.src a (List.mem_filter.1 ha).1, fun p => ?_, ?_, fun k => ?_⟩
  · exact List.Nodup.sublist (List.Sublist.map _ List.filter_sublist) r.nd
  · simp only [keepNe, List.mem_filter, r.mem, bne_iff_ne]
    exact ⟨fun ⟨⟨a, ha, e⟩, h⟩ => ⟨a, ⟨ha, by rw [e]; exact h⟩, e⟩, fun ⟨a, ⟨ha, h⟩, e⟩ => ⟨⟨a, ha, e⟩, by rw [← e]; exact h⟩⟩
  · exact List.Pairwise.sublist List.filter_sublist r.srt
  · have h := cnt_filter r.nd hq k
    rw [getI_put, r.src q hq, r.cnt, r.cnt]
    by_cases hk : k = q.2
    · rw [if_pos hk]
      rw [if_pos hk.symm] at h
      rw [hk] at h ⊢
      omega
    · rw [if_neg hk]
      rw [if_neg (fun e => hk e.symm)] at h
      omega

theorem Rel.left_nodup (r : Rel l left u m) : left.Nodup := r.srt.imp (fun h => Int.ne_of_lt h)

theorem Rel.left_len (r : Rel l left u m) : left.length = l.length := by
  have h1 := nodup_len r.left_nodup (b := l.map (·.1)) (fun x hx => by obtain ⟨q, hq, e⟩ := (r.mem x).1 hx; exact List.mem_map.2 ⟨q, hq, e⟩)
  have h2 := nodup_len r.nd (b := left) (fun x hx => by obtain ⟨q, hq, e⟩ := List.mem_map.1 hx; exact (r.mem x).2 ⟨q, hq, e⟩)
  simp at h1 h2; omega

theorem src_of {b : Int} (hn : (l.map (·.1)).Nodup) {q : Move} (hq : q ∈ l) : l.foldl (fun o m => if m.1 == q.1 then m.2 else o) b = q.2 := by
  induction l generalizing b with
  | nil => cases hq
  | cons x l ih =>
    have hn' := List.nodup_cons.1 (by simpa using hn : (x.1 :: l.map (·.1)).Nodup)
    simp only [List.foldl_cons]
    rcases List.mem_cons.1 hq with rfl | hq'
    · have : ∀ (l' : List Move) (c : Int), (∀ y ∈ l', y.1 ≠ q.1) → l'.foldl (fun o m => if m.1 == q.1 then m.2 else o) c = c := fun l' => by
        induction l' with
        | nil => intro c _; rfl
        | cons y l' ih' =>
          intro c h
          simp only [List.foldl_cons]
          have hy : (y.1 == q.1) = false := beq_eq_false_iff_ne.2 (h y (by simp))
          rw [hy]
          exact ih' _ (fun z hz => h z (by simp [hz]))
      rw [this l _ (fun y hy e => hn'.1 (List.mem_map.2 ⟨y, hy, e⟩))]
      simp
    · exact ih hn'.2 hq'

theorem Rel.source (r : Rel l left u m) {p : Int} (hp : p ∈ left) : sourceR l p = getI m p := by
  obtain ⟨q, hq, rfl⟩ := (r.mem p).1 hp
  rw [r.src q hq]
  exact src_of r.nd hq

theorem Rel.used (r : Rel l left u m) (k : Int) : getI u k = 0 ↔ (l.any fun q => q.2 == k) = false := by
  rw [r.cnt k, List.any_eq_false]
  constructor
  · intro h q hq e
    have : q ∈ l.filter fun q => q.2 == k := List.mem_filter.2 ⟨hq, e⟩
    have := List.length_pos_of_mem this
    omega
  · intro h
    have : l.filter (fun q => q.2 == k) = [] := List.filter_eq_nil_iff.2 (fun q hq e => h q hq e)
    rw [this]; rfl

/-- The fold that finds what is free. -/
theorem free_fold (l0 : List Move) : ∀ (l : List Move) (b : Int), (∀ q ∈ l, 0 ≤ q.1) →
    (b < 0 → (l.foldl (freeStep l0) b = b ∧ ∀ q ∈ l, (l0.any fun k => k.2 == q.1) = true) ∨ ∃ q ∈ l, l.foldl (freeStep l0) b = q.1 ∧ (l0.any fun k => k.2 == q.1) = false ∧ ∀ q' ∈ l, (l0.any fun k => k.2 == q'.1) = false → q.1 ≤ q'.1) ∧
    (0 ≤ b → l.foldl (freeStep l0) b ≤ b ∧ 0 ≤ l.foldl (freeStep l0) b ∧ (l.foldl (freeStep l0) b = b ∨ ∃ q ∈ l, l.foldl (freeStep l0) b = q.1 ∧ (l0.any fun k => k.2 == q.1) = false) ∧ ∀ q' ∈ l, (l0.any fun k => k.2 == q'.1) = false → l.foldl (freeStep l0) b ≤ q'.1)
  | [], b, _ => ⟨fun _ => .inl ⟨rfl, fun q hq => by cases hq⟩, fun h => ⟨Int.le_refl _, h, .inl rfl, fun q hq => by cases hq⟩⟩
  | x :: l, b, hp => by
    have hx := hp x (by simp)
    have hp' : ∀ q ∈ l, 0 ≤ q.1 := fun q hq => hp q (by simp [hq])
    simp only [List.foldl_cons]
    cases hu : (l0.any fun k => k.2 == x.1) with
    | true =>
      have e : freeStep l0 b x = b := by simp [freeStep, hu]
      rw [e]
      obtain ⟨h1, h2⟩ := free_fold l0 l b hp'
      refine ⟨fun hb => ?_, fun hb => ?_⟩
      · rcases h1 hb with ⟨a, c⟩ | ⟨q, hq, a, c, d⟩
        · exact .inl ⟨a, fun q hq => by rcases List.mem_cons.1 hq with rfl | hq; exact hu; exact c q hq⟩
        · exact .inr ⟨q, by simp [hq], a, c, fun q' hq' hf => by rcases List.mem_cons.1 hq' with rfl | hq'; rw [hu] at hf; cases hf; exact d q' hq' hf⟩
      · obtain ⟨a, a2, c, d⟩ := h2 hb
        refine ⟨a, a2, ?_, fun q' hq' hf => by rcases List.mem_cons.1 hq' with rfl | hq'; rw [hu] at hf; cases hf; exact d q' hq' hf⟩
        rcases c with c | ⟨q, hq, c⟩
        · exact .inl c
        · exact .inr ⟨q, by simp [hq], c⟩
    | false =>
      by_cases hlt : b < 0 ∨ x.1 < b
      · have e : freeStep l0 b x = x.1 := by
          have : (decide (b < 0) || decide (x.1 < b)) = true := by
            rcases hlt with h | h <;> simp [h]
          simp [freeStep, hu, this]
        rw [e]
        obtain ⟨_, h2⟩ := free_fold l0 l x.1 hp'
        obtain ⟨a, a2, c, d⟩ := h2 hx
        have key : ∃ q ∈ x :: l, l.foldl (freeStep l0) x.1 = q.1 ∧ (l0.any fun k => k.2 == q.1) = false := by
          rcases c with c | ⟨q, hq, c⟩
          · exact ⟨x, by simp, c, hu⟩
          · exact ⟨q, by simp [hq], c⟩
        have low : ∀ q' ∈ x :: l, (l0.any fun k => k.2 == q'.1) = false → l.foldl (freeStep l0) x.1 ≤ q'.1 := fun q' hq' hf => by
          rcases List.mem_cons.1 hq' with rfl | hq'
          · exact a
          · exact d q' hq' hf
        obtain ⟨q, hq, e1, e2⟩ := key
        exact ⟨fun hb => .inr ⟨q, hq, e1, e2, fun q' hq' hf => by rw [← e1]; exact low q' hq' hf⟩, fun hb => ⟨Int.le_trans a (Int.le_of_lt (hlt.resolve_left (Int.not_lt.2 hb))), a2, .inr ⟨q, hq, e1, e2⟩, low⟩⟩
      · have e : freeStep l0 b x = b := by
          have : (decide (b < 0) || decide (x.1 < b)) = false := by
            have h1 : ¬ b < 0 := fun h => hlt (.inl h)
            have h2 : ¬ x.1 < b := fun h => hlt (.inr h)
            simp [h1, h2]
          simp [freeStep, this]
        rw [e]
        obtain ⟨_, h2⟩ := free_fold l0 l b hp'
        refine ⟨fun hb => (hlt (.inl hb)).elim, fun hb => ?_⟩
        obtain ⟨a, a2, c, d⟩ := h2 hb
        refine ⟨a, a2, ?_, fun q' hq' hf => ?_⟩
        · rcases c with c | ⟨q, hq, c⟩
          · exact .inl c
          · exact .inr ⟨q, by simp [hq], c⟩
        · rcases List.mem_cons.1 hq' with rfl | hq'
          · have h2 : ¬ q'.1 < b := fun h => hlt (.inr h)
            omega
          · exact d q' hq' hf

theorem getD_mem {l : List Int} {i : Nat} (h : i < l.length) : l.getD i 0 ∈ l := by
  rw [List.getD_eq_getElem?_getD, List.getElem?_eq_getElem h]; exact List.getElem_mem h

theorem mem_getD_ix {l : List Int} {x : Int} (h : x ∈ l) : ∃ i, i < l.length ∧ l.getD i 0 = x := by
  obtain ⟨i, hi⟩ := List.mem_iff_getElem?.1 h
  exact ⟨i, (List.getElem?_eq_some_iff.1 hi).1, by rw [List.getD_eq_getElem?_getD, hi]; rfl⟩

theorem srt_le {l : List Int} (h : l.Pairwise (· < ·)) {i j : Nat} (hi : i ≤ j) (hj : j < l.length) : l.getD i 0 ≤ l.getD j 0 := by
  rcases Nat.lt_or_ge i j with hlt | hge
  · have := List.pairwise_iff_getElem.1 h i j (by omega) hj hlt
    rw [List.getD_eq_getElem?_getD, List.getElem?_eq_getElem (by omega), List.getD_eq_getElem?_getD, List.getElem?_eq_getElem hj]
    exact Int.le_of_lt this
  · have : i = j := by omega
    rw [this]; exact Int.le_refl _

theorem Rel.free (r : Rel l left u m) {i : Nat} (hi : i < left.length) (h0 : getI u (left.getD i 0) = 0) (hno : ∀ j, j < i → getI u (left.getD j 0) ≠ 0) : freeR l = left.getD i 0 ∧ 0 ≤ left.getD i 0 := by
  have hmem := getD_mem hi
  obtain ⟨q, hq, e⟩ := (r.mem _).1 hmem
  have hq0 := (r.pos q hq).1
  have hf := (r.used _).1 h0
  obtain ⟨h1, _⟩ := free_fold l l (-1) (fun q hq => (r.pos q hq).1.1)
  rcases h1 (by omega) with ⟨_, c⟩ | ⟨q', hq', a, c, d⟩
  · have := c q hq
    rw [e, hf] at this; cases this
  · refine ⟨?_, by omega⟩
    have hle := d q hq (by rw [e]; exact hf)
    have hm' : q'.1 ∈ left := (r.mem _).2 ⟨q', hq', rfl⟩
    obtain ⟨j, hj, ej⟩ := mem_getD_ix hm'
    have hji : ¬ j < i := fun h => hno j h (by rw [ej]; exact (r.used _).2 c)
    have := srt_le r.srt (Nat.le_of_not_lt hji) hj
    show l.foldl (freeStep l) (-1) = _
    omega

theorem Rel.noFree (r : Rel l left u m) (hno : ∀ j, j < left.length → getI u (left.getD j 0) ≠ 0) : ¬ 0 ≤ freeR l ∧ ∀ q ∈ l, ∃ k ∈ l, k.2 = q.1 := by
  have hall : ∀ q ∈ l, (l.any fun k => k.2 == q.1) = true := fun q hq => by
    obtain ⟨j, hj, ej⟩ := mem_getD_ix ((r.mem q.1).2 ⟨q, hq, rfl⟩)
    cases h : (l.any fun k => k.2 == q.1) with
    | true => rfl
    | false => exact (hno j hj (by rw [ej]; exact (r.used _).2 h)).elim
  refine ⟨fun h => ?_, fun q hq => by obtain ⟨k, hk, e⟩ := List.any_eq_true.1 (hall q hq); exact ⟨k, hk, beq_iff_eq.1 e⟩⟩
  obtain ⟨h1, _⟩ := free_fold l l (-1) (fun q hq => (r.pos q hq).1.1)
  rcases h1 (by omega) with ⟨a, _⟩ | ⟨q', hq', a, c, d⟩
  · have : freeR l = -1 := a
    omega
  · rw [hall q' hq'] at c; cases c

theorem min_le : ∀ (l : List Move) (b : Int), l.foldl (fun b m => min b m.1) b ≤ b ∧ ∀ q ∈ l, l.foldl (fun b m => min b m.1) b ≤ q.1
  | [], b => ⟨Int.le_refl _, fun q hq => by cases hq⟩
  | x :: l, b => by
    simp only [List.foldl_cons]
    obtain ⟨h1, h2⟩ := min_le l (min b x.1)
    refine ⟨by omega, fun q hq => ?_⟩
    rcases List.mem_cons.1 hq with rfl | hq
    · omega
    · exact h2 q hq

theorem Rel.least (r : Rel l left u m) (h : left.length ≠ 0) : minTo l = left.getD 0 0 := by
  have hl : l ≠ [] := fun e => h (by rw [r.left_len, e]; rfl)
  obtain ⟨q, hq, e⟩ := minTo_mem hl
  have h1 : minTo l ∈ left := (r.mem _).2 ⟨q, hq, e⟩
  obtain ⟨j, hj, ej⟩ := mem_getD_ix h1
  have h2 := srt_le r.srt (Nat.zero_le j) hj
  obtain ⟨q0, hq0, e0⟩ := (r.mem _).1 (getD_mem (l := left) (i := 0) (by omega))
  have h3 := (min_le l (l.getD 0 (0, 0)).1).2 q0 hq0
  have h4 : minTo l ≤ q0.1 := h3
  omega
end
end Go.Ab

/- Plain: circles; the two layers. -/
namespace Go.Ab

def iterI (m : List (Int × Int)) (x : Int) : Nat → Int
  | 0 => x
  | n + 1 => getI m (iterI m x n)

section
variable {l : List Move} {left : List Int} {u m : List (Int × Int)}

theorem uniq2 {a b : Move} (hn : (l.map (·.2)).Nodup) (ha : a ∈ l) (hb : b ∈ l) (h : a.2 = b.2) : a = b := by
  induction l with
  | nil => cases ha
  | cons x l ih =>
    have hn' := List.nodup_cons.1 (by simpa using hn : (x.2 :: l.map (·.2)).Nodup)
    rcases List.mem_cons.1 ha with rfl | ha' <;> rcases List.mem_cons.1 hb with rfl | hb'
    · rfl
    · exact (hn'.1 (List.mem_map.2 ⟨b, hb', h.symm⟩)).elim
    · exact (hn'.1 (List.mem_map.2 ⟨a, ha', h⟩)).elim
    · exact ih hn'.2 ha' hb'

/-- Where each To is a From, all of them go round. -/
theorem Rel.turns (r : Rel l left u m) (hall : ∀ q ∈ l, ∃ k ∈ l, k.2 = q.1) : (l.map (·.2)).Nodup ∧ ∀ q ∈ l, ∃ k ∈ l, k.1 = q.2 := by
  have hp := nodup_perm r.nd (b := l.map (·.2)) (fun x hx => by
    obtain ⟨q, hq, e⟩ := List.mem_map.1 hx
    obtain ⟨k, hk, e2⟩ := hall q hq
    exact List.mem_map.2 ⟨k, hk, e2.trans e⟩) (by simp)
  refine ⟨hp.nodup_iff.1 r.nd, fun q hq => ?_⟩
  have : q.2 ∈ l.map (·.1) := hp.mem_iff.2 (List.mem_map.2 ⟨q, hq, rfl⟩)
  obtain ⟨k, hk, e⟩ := List.mem_map.1 this
  exact ⟨k, hk, e⟩

theorem circGo_eq (l : List Move) (x : Int) (c : Nat → Int) (n : Nat) (hs : ∀ i, i ≤ n → sourceR l (c i) = c (i + 1)) (hpos : ∀ i, 0 ≤ c i) (hne : ∀ i, i < n → c (i + 1) ≠ x) (hend : c (n + 1) = x) :
    ∀ (k i : Nat), n - i = k → i ≤ n → ∀ fuel, n ≤ fuel + i → circGo l x fuel (circL c i) (c (i + 1)) = circL c n
  | 0, i, hk, hi, fuel, _ => by
    have : i = n := by omega
    subst this
    cases fuel with
    | zero => rfl
    | succ f => simp [circGo, hend]
  | k + 1, i, hk, hi, fuel, hf => by
    obtain ⟨f, rfl⟩ : ∃ f, fuel = f + 1 := ⟨fuel - 1, by omega⟩
    have h1 : (c (i + 1) != x && decide (0 ≤ c (i + 1))) = true := by
      simp [hne i (by omega), hpos (i + 1)]
    simp only [circGo, h1, if_pos]
    have h2 : circL c i ++ [c (i + 1)] = circL c (i + 1) := by simp [circL, List.range_succ]
    rw [h2, hs (i + 1) (by omega)]
    exact circGo_eq l x c n hs hpos hne hend k (i + 1) (by omega) (by omega) f (by omega)

theorem Rel.circle (r : Rel l left u m) (hne : left.length ≠ 0) (hall : ∀ q ∈ l, ∃ k ∈ l, k.2 = q.1) {x : Int} (hx : x = left.getD 0 0) : ∃ n, n + 1 ≤ l.length ∧ (∀ i, i < n → iterI m x (i + 1) ≠ x) ∧ iterI m x (n + 1) = x ∧
    (∀ i, iterI m x i ∈ left) ∧ circleR l x = circL (iterI m x) n ∧ ∀ i j, i < j → j ≤ n → iterI m x i ≠ iterI m x j := by
  obtain ⟨hn2, hback⟩ := r.turns hall
  have hmem : ∀ i, iterI m x i ∈ left := fun i => by
    induction i with
    | zero => rw [iterI, hx]; exact getD_mem (by omega)
    | succ i ih =>
      obtain ⟨q, hq, e⟩ := (r.mem _).1 ih
      rw [iterI, ← e, r.src q hq]
      exact (r.mem _).2 (hback q hq)
  have hinj : ∀ a b, a ∈ left → b ∈ left → getI m a = getI m b → a = b := fun a b ha hb h => by
    obtain ⟨p, hp, rfl⟩ := (r.mem _).1 ha
    obtain ⟨q, hq, rfl⟩ := (r.mem _).1 hb
    rw [r.src p hp, r.src q hq] at h
    rw [uniq2 hn2 hp hq h]
  have back : ∀ i d, iterI m x i = iterI m x (i + d) → iterI m x d = x := fun i => by
    induction i with
    | zero => intro d h; rw [Nat.zero_add] at h; exact h.symm
    | succ i ih =>
      intro d h
      have e : i + 1 + d = (i + d) + 1 := by omega
      rw [e, iterI, iterI] at h
      exact ih d (hinj _ _ (hmem i) (hmem (i + d)) h)
  have hcol : ∃ i j, i < j ∧ j ≤ l.length ∧ iterI m x i = iterI m x j := by
    refine Classical.byContradiction fun hno => ?_
    have hnd : ((List.range (l.length + 1)).map (iterI m x)).Nodup := by
      rw [List.Nodup, List.pairwise_map, List.pairwise_iff_getElem]
      intro i j hi hj hij
      simp only [List.getElem_range]
      simp at hi hj
      exact fun e => hno ⟨i, j, hij, by omega, e⟩
    have := nodup_len hnd (b := left) (fun y hy => by obtain ⟨i, _, e⟩ := List.mem_map.1 hy; rw [← e]; exact hmem i)
    simp [r.left_len] at this
    omega
  obtain ⟨i, j, hij, hj, e⟩ := hcol
  obtain ⟨d, rfl⟩ : ∃ d, j = i + (d + 1) := ⟨j - i - 1, by omega⟩
  have hd := back i (d + 1) e
  obtain ⟨n, hn, hmin⟩ := Go.Ab.least (fun n => iterI m x (n + 1) = x) ⟨d, hd⟩
  have hnd : n ≤ d := hmin d hd
  have hlt : ∀ i, i < n → iterI m x (i + 1) ≠ x := fun i hi e => by
    have := hmin i e
    omega
  refine ⟨n, by omega, hlt, hn, hmem, ?_, fun i j hij hj e => ?_⟩
  · have hpos : ∀ i, 0 ≤ iterI m x i := fun i => by
      obtain ⟨q, hq, e⟩ := (r.mem _).1 (hmem i)
      have := (r.pos q hq).1
      omega
    have hs : ∀ i, i ≤ n → sourceR l (iterI m x i) = iterI m x (i + 1) := fun i _ => r.source (hmem i)
    have := circGo_eq l x (iterI m x) n hs hpos hlt hn n 0 (by omega) (Nat.zero_le _) l.length (by omega)
    rw [circleR]
    have h0 : sourceR l x = iterI m x (0 + 1) := hs 0 (Nat.zero_le _)
    rw [h0]
    exact this
  · obtain ⟨d, rfl⟩ : ∃ d, j = i + (d + 1) := ⟨j - i - 1, by omega⟩
    exact hlt d (by omega) (back i (d + 1) e)

theorem dropAll_mem : ∀ (c : List Int) (l : List Move) (q : Move), q ∈ dropAll l c ↔ q ∈ l ∧ q.1 ∉ c
  | [], l, q => by simp [dropAll]
  | p :: c, l, q => by
    have := dropAll_mem c (l.filter fun m => m.1 != p) q
    show q ∈ dropAll (l.filter fun m => m.1 != p) c ↔ _
    rw [this, List.mem_filter]
    simp only [bne_iff_ne, List.mem_cons, not_or]
    exact ⟨fun ⟨⟨a, b⟩, c⟩ => ⟨a, b, c⟩, fun ⟨a, b, c⟩ => ⟨⟨a, b⟩, c⟩⟩
end

theorem foldI_len (sc sp : Int) : ∀ (ps : List (Int × Int)) (s : List Mac × Bool), (ps.foldl (fun s p => bringI sc sp s p.1 p.2) s).1.length ≤ s.1.length + 4 * ps.length
  | [], s => by simp
  | p :: ps, s => by
    simp only [List.foldl_cons, List.length_cons]
    have h1 := foldI_len sc sp ps (bringI sc sp s p.1 p.2)
    have h2 := bringI_len sc sp s p.1 p.2
    omega

theorem roundI_len (sc sp : Int) (s : List Mac × Bool) (c : List Int) : (roundI sc sp s c).1.length ≤ s.1.length + 4 * (c.length + 2) := by
  unfold roundI
  split
  · simp [pairs_len]; omega
  · split
    · simp
    · simp only
      generalize (if regsR c = true then sc else 16 + sp) = t
      have h1 := bringI_len sc sp s t (c.getD 0 0)
      have h2 := foldI_len sc sp (pairs c) (bringI sc sp s t (c.getD 0 0))
      have h3 := bringI_len sc sp ((pairs c).foldl (fun s p => bringI sc sp s p.1 p.2) (bringI sc sp s t (c.getD 0 0))) (c.getD (c.length - 1) 0) t
      have := pairs_len c
      omega

/-! ### The two layers -/
def EqL (s : List Mac × Int) (t : List Mac × Bool) : Prop := (s.2 = 0 ∧ t.2 = false ∧ s.1 = t.1) ∨ (s.2 = 43 ∧ t.2 = true)

theorem EqL.bring {s : List Mac × Int} {t : List Mac × Bool} (h : EqL s t) (sc sp to frm : Int) : EqL (bringR sc sp s to frm) (bringI sc sp t to frm) := by
  rcases h with ⟨h1, h2, h3⟩ | ⟨h1, h2⟩
  · unfold bringR bringI
    rw [if_neg (by simp [h1])]
    cases bringC sc sp to frm with
    | some c => exact .inl ⟨rfl, h2, by simp [h3]⟩
    | none => exact .inr ⟨rfl, rfl⟩
  · unfold bringR bringI
    rw [if_pos (by rw [h1]; decide)]
    cases bringC sc sp to frm with
    | some c => exact .inr ⟨h1, h2⟩
    | none => exact .inr ⟨h1, rfl⟩

theorem EqL.fold {sc sp : Int} : ∀ (ps : List (Int × Int)) {s : List Mac × Int} {t : List Mac × Bool}, EqL s t → EqL (ps.foldl (fun s p => bringR sc sp s p.1 p.2) s) (ps.foldl (fun s p => bringI sc sp s p.1 p.2) t)
  | [], _, _, h => h
  | p :: ps, _, _, h => EqL.fold ps (h.bring sc sp p.1 p.2)

theorem EqL.round {s : List Mac × Int} {t : List Mac × Bool} (h : EqL s t) (sc sp : Int) (c : List Int) : EqL (roundR sc sp s c) (roundI sc sp t c) := by
  unfold roundR roundI
  split
  · rcases h with ⟨h1, h2, h3⟩ | ⟨h1, h2⟩
    · exact .inl ⟨h1, h2, by rw [h3]⟩
    · exact .inr ⟨h1, h2⟩
  · split
    · exact .inr ⟨rfl, rfl⟩
    · exact (EqL.fold _ (h.bring sc sp _ _)).bring sc sp _ _
end Go.Ab

/- slices.Sort of whole numbers: the shelf's contract, laid at this program (the text between 'def Try.srt_ren' and its end is what the kit's lay-plain tool prints for this program). -/
namespace Go.Proofs
open Go.Shelf
def Try.srt_ren : Go.Shelf.Ren := ⟨fun | 5 => 31 | 8 => 59 | 7 => 58 | 19 => 76 | 20 => 77 | 10 => 67 | 11 => 68 | 12 => 69 | 13 => 70 | 14 => 71 | 15 => 72 | 16 => 73 | 17 => 74 | 18 => 75 | 30 => 78 | 31 => 79 | 32 => 80 | 33 => 81 | 34 => 82 | 35 => 83 | 40 => 84 | n => n, fun | 23 => 23 | 25 => 3 | 3 => 3 | 32 => 91 | 22 => 23 | 0 => 0 | 44 => 103 | 46 => 105 | 4 => 4 | 36 => 97 | 35 => 96 | 41 => 81 | 5 => 5 | 9 => 9 | 53 => 106 | 57 => 110 | 63 => 112 | 64 => 113 | n => n, fun | n => n⟩
theorem Try.srt : Go.Proofs.SlLaysM.n5 Try.prog Try.srt_ren := {
  mixed := by kernel_rfl
  f5 := ⟨Try.f31.name, by decide, Try.func31.trans (congrArg some (by kernel_rfl))⟩
  f7 := ⟨Try.f58.name, by decide, Try.func58.trans (congrArg some (by kernel_rfl))⟩
  f8 := Try.func59.trans (congrArg some (by kernel_rfl))
  f10 := ⟨Try.f67.name, by decide, Try.func67.trans (congrArg some (by kernel_rfl))⟩
  f11 := ⟨Try.f68.name, by decide, Try.func68.trans (congrArg some (by kernel_rfl))⟩
  f12 := ⟨Try.f69.name, by decide, Try.func69.trans (congrArg some (by kernel_rfl))⟩
  f13 := ⟨Try.f70.name, by decide, Try.func70.trans (congrArg some (by kernel_rfl))⟩
  f14 := ⟨Try.f71.name, by decide, Try.func71.trans (congrArg some (by kernel_rfl))⟩
  f15 := ⟨Try.f72.name, by decide, Try.func72.trans (congrArg some (by kernel_rfl))⟩
  f16 := ⟨Try.f73.name, by decide, Try.func73.trans (congrArg some (by kernel_rfl))⟩
  f17 := ⟨Try.f74.name, by decide, Try.func74.trans (congrArg some (by kernel_rfl))⟩
  f18 := ⟨Try.f75.name, by decide, Try.func75.trans (congrArg some (by kernel_rfl))⟩
  f19 := Try.func76.trans (congrArg some (by kernel_rfl))
  f20 := Try.func77.trans (congrArg some (by kernel_rfl))
  f30 := ⟨Try.f78.name, by decide, Try.func78.trans (congrArg some (by kernel_rfl))⟩
  f31 := Try.func79.trans (congrArg some (by kernel_rfl))
  f32 := Try.func80.trans (congrArg some (by kernel_rfl))
  f33 := ⟨Try.f81.name, by decide, Try.func81.trans (congrArg some (by kernel_rfl))⟩
  f34 := ⟨Try.f82.name, by decide, Try.func82.trans (congrArg some (by kernel_rfl))⟩
  f35 := ⟨Try.f83.name, by decide, Try.func83.trans (congrArg some (by kernel_rfl))⟩
  f40 := ⟨Try.f84.name, by decide, Try.func84.trans (congrArg some (by kernel_rfl))⟩
  t0 := Try.underlying0
  a0 := Try.isAgg0
  z0 := Try.sizeOf0
  v0 := Try.zeroValue0
  t3 := Try.underlying3
  a3 := Try.isAgg3
  z3 := Try.sizeOf3
  v3 := Try.zeroValue3
  t4 := Try.underlying4
  a4 := Try.isAgg4
  z4 := Try.sizeOf4
  v4 := Try.zeroValue4
  t5 := Try.underlying5
  a5 := Try.isAgg5
  z5 := Try.sizeOf5
  v5 := Try.zeroValue5
  t9 := Try.underlying9
  a9 := Try.isAgg9
  z9 := Try.sizeOf9
  v9 := Try.zeroValue9
  t22 := Try.underlying23
  a22 := Try.isAgg23
  z22 := Try.sizeOf23
  v22 := Try.zeroValue23
  t23 := Try.underlying23
  a23 := Try.isAgg23
  z23 := Try.sizeOf23
  v23 := Try.zeroValue23
  t25 := Try.underlying3
  a25 := Try.isAgg3
  z25 := Try.sizeOf3
  v25 := Try.zeroValue3
  t32 := Try.underlying91
  a32 := Try.isAgg91
  z32 := Try.sizeOf91
  v32 := Try.zeroValue91
  t35 := Try.underlying96
  a35 := Try.isAgg96
  z35 := Try.sizeOf96
  v35 := Try.zeroValue96
  t36 := Try.underlying97
  a36 := Try.isAgg97
  z36 := Try.sizeOf97
  v36 := Try.zeroValue97
  t41 := Try.underlying81
  a41 := Try.isAgg81
  z41 := Try.sizeOf81
  v41 := Try.zeroValue81
  t44 := Try.underlying103
  a44 := Try.isAgg103
  z44 := Try.sizeOf103
  v44 := Try.zeroValue103
  t46 := Try.underlying105
  a46 := Try.isAgg105
  z46 := Try.sizeOf105
  v46 := Try.zeroValue105
  t53 := Try.underlying106
  a53 := Try.isAgg106
  z53 := Try.sizeOf106
  v53 := Try.zeroValue106
  t57 := Try.underlying110
  a57 := Try.isAgg110
  z57 := Try.sizeOf110
  v57 := Try.zeroValue110
  t63 := Try.underlying112
  a63 := Try.isAgg112
  z63 := Try.sizeOf112
  v63 := Try.zeroValue112
  t64 := Try.underlying113
  a64 := Try.isAgg113
  z64 := Try.sizeOf113
  v64 := Try.zeroValue113 }
end Go.Proofs
namespace Go.Ab
open Go.Proofs
section
variable {P : Program} {n0 : Lim} {G G' : Gh} {w w' : World} {H : Heap}

def sortI (xs : List Int) : List Int := xs.mergeSort fun x y => decide (x ≤ y)

theorem ints_of_rep : ∀ {vs : List Value} {xs : List Int}, RepL G w vs (xs.flatMap encI) → vs = xs.map (Value.int .i64)
  | [], [], _ => rfl
  | [], x :: xs, r => absurd r.1 (by simp [encI])
  | v :: vs, [], r => absurd r.1 (by simp)
  | v :: vs, x :: xs, r => by
    have h0 := (r.2 0 v (.int .i64 x) rfl (by simp [encI])).int_inv.1
    have ih := ints_of_rep (vs := vs) (xs := xs) ⟨by have := r.1; simp [encI] at this; simpa [encI] using this, fun i c y hc hy => r.2 (i + 1) c y (by simpa using hc) (by simpa [encI] using hy)⟩
    rw [h0, ih]; rfl

theorem rep_of_ints {vs : List Value} {xs : List Int} (h : RepL G w vs (xs.flatMap encI)) {ts : List Int} (hm : ∀ t ∈ ts, t ∈ xs) : RepL G' w' (ts.map (Value.int .i64)) (ts.flatMap encI) := by
  have hx : ∀ x ∈ xs, IntKind.i64.has x := fun x hx => by
    obtain ⟨i, hi⟩ := List.mem_iff_getElem?.1 hx
    have e := ints_of_rep h
    have h1 : vs[i]? = some (.int .i64 x) := by rw [e, List.getElem?_map, hi]; rfl
    have h2 : (xs.flatMap encI)[i]? = some (.int .i64 x) := by
      have : xs.flatMap encI = xs.map (fun x => V.int .i64 x) := by
        clear hx hi e h1 h hm
        induction xs with
        | nil => rfl
        | cons y ys ih => simp [encI, ih]
      rw [this, List.getElem?_map, hi]; rfl
    exact (h.2 i _ _ h1 h2).int_inv.2
  have e : ts.flatMap encI = ts.map (fun x => V.int .i64 x) := by
    clear hm
    induction ts with
    | nil => rfl
    | cons y ys ih => simp [encI, ih]
  rw [e]
  refine ⟨by simp, fun i c y hc hy => ?_⟩
  simp only [List.getElem?_map, Option.map_eq_some_iff] at hc hy
  obtain ⟨t, ht, rfl⟩ := hc
  obtain ⟨t', ht', rfl⟩ := hy
  rw [ht] at ht'; cases ht'
  exact .int _ _ (hx t (hm t (List.mem_of_getElem? ht)))
end

theorem sort_ct (yl : Nat) (n : Nat) (xs : List Int) (hn : n = xs.length) (hl : n ≤ 100000) : CT Try.prog (Cx.plain yl) noAr 31 [.ref 0 1 0 n] [.arr 3 elI xs] (fun o H => ∃ ys, ys = sortI xs ∧ o = .ret (.tuple []) ∧ H = [.arr 3 elI ys]) := by
  have callable : Callable Try.prog 31 := ⟨Try.f31, Try.func31, by kernel_rfl, by kernel_rfl⟩
  refine ⟨callable, fun G w vs hc s r => callsIn_wide.2 ?_⟩
  obtain ⟨v, rfl⟩ : ∃ v, vs = #[v] := by
    have := r.1
    simp at this
    exact ⟨vs[0], by apply Array.ext <;> simp [this]; intro i hi; subst hi; rfl⟩
  have hr := (r.2 0 v _ rfl rfl).ref_inv.2
  obtain ⟨hel, us, hown, ru⟩ := s.rep 0 _ rfl
  have hus := ints_of_rep ru
  have done : n = 0 → (∃ p cap, v = .slice p 0 cap) → Calls Try.prog 31 #[v] w (callPost ⟨1, noAr⟩ G w fun o H => ∃ ys, ys = sortI xs ∧ o = .ret (.tuple []) ∧ H = [.arr 3 elI ys]) := fun h0 ⟨p, cap, hv⟩ => by
    subst hv
    have hx : xs = [] := List.length_eq_zero_iff.1 (hn.symm.trans h0)
    refine (AnyM.slices_Sort_int_none Try.srt p cap w).mono ?_
    rintro e w' ⟨rfl, rfl⟩
    exact ⟨G, .ret (.tuple []), _, .tuple _ _ rfl (fun i c x h => by simp at h), Ext.refl _ _ _, s, xs, by rw [hx]; simp [sortI], rfl, rfl⟩
  rcases hown.2 with ⟨hnil, h0⟩ | ⟨g, cap, cur, hv, _, hg, hncap, hmax, hsz, htake⟩
  · rw [hnil] at hr
    exact done (hn.trans h0) ⟨none, 0, hr.2.2⟩
  · rw [hv] at hr
    obtain ⟨_, _, q, hq, hqb, hq0⟩ := hr
    have hq1 := hq0 (.inr rfl)
    have hqe : q = ⟨g, 0, none⟩ := by rw [hq1]; rfl
    rw [hqe, Nat.sub_zero] at hq
    subst hq
    by_cases hz : n = 0
    · exact done hz ⟨_, cap, by rw [hz]⟩
    have htake' : cur.toList.take xs.length = xs.map (Value.int .i64) := by
      have h1 : elI.n = 1 := rfl
      rw [h1, Nat.mul_one] at htake
      exact htake.trans hus
    have hgl : g < w.heap.size := (Array.getElem?_eq_some_iff.1 hg).1
    have hcon := AnyM.slices_Sort_int Try.srt g 0 cap xs w (holds_of_blockI hg htake') hgl (by omega)
    rw [hn]
    refine Calls.mono (P := Try.prog) (f := 31) (show Calls Try.prog 31 #[.slice (some ⟨g, 0, none⟩) xs.length cap] w _ from hcon) ?_
    rintro e w' ⟨rfl, k, os, rfl⟩
    have hlen : (sortI xs).length = xs.length := by simp [sortI]
    have hmem : ∀ t ∈ sortI xs, t ∈ xs := fun t ht => (List.mergeSort_perm xs _).mem_iff.1 ht
    have hown1 := ownsRow_sortedI (n := k) (os := #[]) (ts := sortI xs) hlen (Nat.zero_le _) hg hncap hmax hsz
    rw [Go.Sort.grow_empty] at hown1
    have one : One w (Go.Sort.putRow (Value.int .i64) (Go.Sort.ahead w k) g 0 (sortI xs).toArray) g := by
      refine ⟨rfl, rfl, rfl, by simp [Go.Sort.putRow, Go.Sort.mapBlock, Go.Sort.ahead], fun b hb => ?_⟩
      simp [Go.Sort.putRow, Go.Sort.mapBlock, Go.Sort.ahead, Array.getElem?_modify, Ne.symm hb]
    have hne := s.own 0 (.arr 3 elI xs) g rfl (by simp [ownOf, hv, Value.ownBlock])
    have hnf := s.fro 0 (.arr 3 elI xs) g rfl (by simp [ownOf, hv, Value.ownBlock])
    obtain ⟨s1, le1⟩ := s.turn (k := 0) (b' := .arr 3 elI (sortI xs)) rfl (by simp [ownOf, hv, Value.ownBlock]) (by simp [ownOf, hv, Value.ownBlock]) one
      (.inr fun j r m es rem cur h => by
        match j with
        | 0 => cases h
        | j + 1 => cases h)
      (fun _ => ⟨hel, (sortI xs).map (Value.int .i64), by rw [hv]; exact Eq.mpr (congrArg (fun m => World.ownsRow _ 0 3 1 _ m _) hlen) hown1, rep_of_ints ru hmem⟩)
    have more : More (Go.Sort.putRow (Value.int .i64) (Go.Sort.ahead w k) g 0 (sortI xs).toArray) (Go.Sort.grow (Go.Sort.putRow (Value.int .i64) (Go.Sort.ahead w k) g 0 (sortI xs).toArray) os) := by
      refine ⟨rfl, rfl, rfl, by simp [Go.Sort.grow], fun b hb => ?_⟩
      simp only [Go.Sort.grow]
      rw [Array.getElem?_append_left hb]
    obtain ⟨s2, le2⟩ := s1.more more
    refine ⟨G, .ret (.tuple []), [.arr 3 elI (sortI xs)], .tuple _ _ rfl (fun i c x h => by simp at h), ?_, s2, _, rfl, rfl, rfl⟩
    exact (Ext.of_one one hne.2 hnf).trans (Ext.of_more more s1 (fun _ h => h) (fun _ _ => rfl) rfl (fun _ _ => rfl))
end Go.Ab

/- Plain: the maps that the program builds; sorting. -/
namespace Go.Ab

theorem dup_nodup (l : List Move) (h : dupTo l l.length = false) : (l.map (·.1)).Nodup := by
  rw [List.Nodup, List.pairwise_map, List.pairwise_iff_getElem]
  intro i j hi hj hij e
  have h1 : dupAt l j = false := by
    have := List.any_eq_false.1 h j (List.mem_range.2 hj)
    simpa using this
  have h2 := List.any_eq_false.1 h1 l[i] (by
    have : (l.take j)[i]? = some l[i] := by rw [List.getElem?_take, if_pos hij, List.getElem?_eq_getElem hi]
    exact List.mem_of_getElem? this)
  rw [List.getD_eq_getElem?_getD, List.getElem?_eq_getElem hj] at h2
  simp [e] at h2

structure Built (l : List Move) (m u : List (Int × Int)) : Prop where
  knd : (m.map (·.1)).Nodup
  keys : ∀ p, p ∈ m.map (·.1) ↔ ∃ q ∈ realM l, q.1 = p
  src : ∀ q ∈ realM l, getI m q.1 = q.2
  cnt : ∀ k, getI u k = (((realM l).filter fun q => q.2 == k).length : Int)

theorem Built.nil : Built [] [] [] := ⟨List.nodup_nil, fun p => by simp [realM], fun q hq => by simp [realM] at hq, fun k => rfl⟩

theorem realM_snoc (l : List Move) (q : Move) : realM (l ++ [q]) = realM l ++ if q.1 != q.2 then [q] else [] := by
  rw [realM, List.filter_append]
  cases h : q.1 != q.2 <;> simp [realM, h]

theorem Built.skip {l : List Move} {m u : List (Int × Int)} (b : Built l m u) {q : Move} (h : (q.1 != q.2) = false) : Built (l ++ [q]) m u := by
  have e : realM (l ++ [q]) = realM l := by rw [realM_snoc, h]; simp
  exact ⟨b.knd, by rw [e]; exact b.keys, by rw [e]; exact b.src, by rw [e]; exact b.cnt⟩

theorem Built.add {l : List Move} {m u : List (Int × Int)} (b : Built l m u) {q : Move} (h : (q.1 != q.2) = true) (hnew : ∀ a ∈ l, a.1 ≠ q.1) : Built (l ++ [q]) (putI m q.1 q.2) (putI u q.2 (getI u q.2 + 1)) := by
  have e : realM (l ++ [q]) = realM l ++ [q] := by rw [realM_snoc, h]; simp
  have hk : ¬ q.1 ∈ m.map (·.1) := fun hk => by
    obtain ⟨a, ha, e2⟩ := (b.keys _).1 hk
    exact hnew a (List.mem_filter.1 ha).1 e2
  have hkeys : (putI m q.1 q.2).map (·.1) = m.map (·.1) ++ [q.1] := by rw [putI_keys, if_neg hk]
  refine ⟨?_, fun p => ?_, fun a ha => ?_, fun k => ?_⟩
  · rw [hkeys]
    exact (List.nodup_append.2 ⟨b.knd, by simp, fun x hx y hy => by simp at hy; subst hy; exact fun e => hk (e ▸ hx)⟩)
  · rw [hkeys, e]
    simp only [List.mem_append, b.keys, List.mem_singleton]
    constructor
    · rintro (⟨a, ha, e2⟩ | rfl)
      · exact ⟨a, .inl ha, e2⟩
      · exact ⟨q, .inr rfl, rfl⟩
    · rintro ⟨a, ha | rfl, e2⟩
      · exact .inl ⟨a, ha, e2⟩
      · exact .inr e2.symm
  · rw [e] at ha
    rw [getI_put]
    rcases List.mem_append.1 ha with ha | ha
    · rw [if_neg (hnew a (List.mem_filter.1 ha).1)]
      exact b.src a ha
    · simp at ha
      subst ha
      rw [if_pos rfl]
  · rw [e, getI_put, List.filter_append, List.length_append, b.cnt]
    by_cases hk : k = q.2
    · rw [if_pos hk, hk]; simp
    · have : (q.2 == k) = false := beq_eq_false_iff_ne.2 (fun e => hk e.symm)
      rw [if_neg hk, b.cnt]; simp [this]

theorem Built.cnt_le {l : List Move} {m u : List (Int × Int)} (b : Built l m u) (k : Int) : 0 ≤ getI u k ∧ getI u k ≤ l.length := by
  rw [b.cnt]
  have h1 := List.length_filter_le (fun q : Move => q.2 == k) (realM l)
  have h2 := List.length_filter_le (fun q : Move => q.1 != q.2) l
  have h3 : (realM l).length ≤ l.length := h2
  omega

theorem sortI_srt {ks : List Int} (h : ks.Nodup) : (sortI ks).Pairwise (· < ·) := by
  have hs : (sortI ks).Pairwise (fun a b => decide (a ≤ b) = true) := List.pairwise_mergeSort (fun a b c h1 h2 => by simp at *; omega) (fun a b => by simp; omega) ks
  have hn : (sortI ks).Nodup := (List.mergeSort_perm ks _).nodup_iff.2 h
  have := hs.and hn
  exact this.imp (fun ⟨h1, h2⟩ => by
    have : _ ≤ _ := of_decide_eq_true h1
    exact Int.lt_iff_le_and_ne.2 ⟨this, h2⟩)

theorem sortI_mem {ks : List Int} (p : Int) : p ∈ sortI ks ↔ p ∈ ks := (List.mergeSort_perm ks _).mem_iff
theorem sortI_len (ks : List Int) : (sortI ks).length = ks.length := by simp [sortI]

theorem Built.rel {l : List Move} {m u : List (Int × Int)} (b : Built l m u) (hd : dupTo l l.length = false) (hp : ∀ q ∈ l, (0 ≤ q.1 ∧ q.1 < 16400) ∧ (0 ≤ q.2 ∧ q.2 < 16400)) {ks : List Int} (hk : ks.Perm (m.map (·.1))) :
    Rel (realM l) (sortI ks) u m := by
  refine ⟨?_, fun q hq => hp q (List.mem_filter.1 hq).1, b.src, fun p => ?_, sortI_srt (hk.nodup_iff.2 b.knd), b.cnt⟩
  · exact List.Nodup.sublist (List.Sublist.map _ List.filter_sublist) (dup_nodup l hd)
  · rw [sortI_mem, hk.mem_iff, b.keys]
end Go.Ab
