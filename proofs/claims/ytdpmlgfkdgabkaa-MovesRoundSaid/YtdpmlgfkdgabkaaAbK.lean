/- Contracts of the program's functions over an abstract state, and what they rest on: part AbK. No condition. -/
import Derived.Test.YtdpmlgfkdgabkaaAbG
import Derived.Test.YtdpmlgfkdgabkaaAbJ
set_option linter.unusedVariables false
set_option linter.unusedSimpArgs false

/- The laws' own functions: Same, few, spot, Made. -/
namespace Go.Ab
open Go.Proofs

theorem CT.args {P : Program} {cx : Cx} {p : Ar} {f : Nat} {args args' : List V} {H : Heap} {K : Out → Heap → Prop} (h : CT P cx p f args H K) (ha : ∀ (G : Gh) (w : World) (vs : List Value), RepL G w vs args' → RepL G w vs args) : CT P cx p f args' H K :=
  ⟨h.1, fun G w vs hc s r => h.2 G w vs hc s (ha G w _ r)⟩

def LeL : List V → List V → Prop
  | [], [] => True
  | x :: xs, y :: ys => LeV x y ∧ LeL xs ys
  | _, _ => False

theorem LeL.rep {G : Gh} {w : World} : ∀ {xs ys : List V} {vs : List Value}, LeL xs ys → RepL G w vs xs → RepL G w vs ys
  | [], [], _, _, r => r
  | [], _ :: _, _, h, _ => h.elim
  | _ :: _, [], _, h, _ => h.elim
  | x :: xs, y :: ys, [], _, r => absurd r.1 (by simp)
  | x :: xs, y :: ys, v :: vs, h, r => by
    have ih := h.2.rep (G := G) (w := w) (vs := vs) ⟨by simpa using r.1, fun i c z hc hz => r.2 (i + 1) c z (by simpa using hc) (by simpa using hz)⟩
    refine ⟨by simpa using ih.1, fun i c z hc hz => ?_⟩
    cases i with
    | zero => simp at hc hz; subst hc; subst hz; exact h.1 _ _ _ (r.2 0 v x rfl rfl)
    | succ i => exact ih.2 i c z (by simpa using hc) (by simpa using hz)

theorem CT.le {P : Program} {cx : Cx} {p : Ar} {f : Nat} {args args' : List V} {H : Heap} {K : Out → Heap → Prop} (h : CT P cx p f args H K) (ha : LeL args' args) : CT P cx p f args' H K :=
  h.args fun _ _ _ r => ha.rep r

/-- The same rows are the same. -/
theorem same_ct (yl : Nat) (fa fb : Bool) (a : List Mac) (hl : a.length ≤ 100000) : CT Try.prog (Cx.plain yl) noAr 19 [vK fa a, vK fb a] [] (fun o H => o = .ret (.bool true) ∧ H = []) := by
  refine CT_of_W (tab := tabM) (D := []) (tr := noTr) Try.func19 (by kernel_rfl) rfl tabM_ok (Cx.plain_ok _ _) (by kernel_rfl) (fun z S R hz hS hR => ?_)
  have hne : ∀ x : Int, z .ne x x = false := fun x => by rw [hz]; exact bne_self_eq_false x
  cbv
  rw [hne]
  cbv
  refine tri_loop hS (Cx.plain_ok _ _) (Nat.le_refl _) (fun m env H => ∃ i : Nat, i ≤ a.length ∧ m = a.length - i ∧
      env = mkE 84 [(0, vK fa a), (1, vK fb a), (5, .int .i64 i)] ∧ H = []) a.length
    (.keep [0, 1, 5]) (Nat.zero_le _) ⟨0, Nat.zero_le _, rfl, rfl, rfl⟩ ?_
  rintro m env H ⟨i, hi, rfl, rfl, rfl⟩ hh
  refine T_of_W (tab := tabM) (D := []) (tr := noTr) tabM_ok (Cx.plain_ok _ _) (by kernel_rfl) hh (fun z' S' Q' hz' hS' hQ => ?_)
  have hne' : ∀ x : Int, z' .ne x x = false := fun x => by rw [hz']; exact bne_self_eq_false x
  cbv
  rcases h1 : z' .lt (Int.ofNat i) (S' .len Mac a) with _ | _
  · cbv
    apply hQ
    cbv
    exact hR _ _ _ _ (Wk.refl _ _) ⟨rfl, rfl⟩
  · have hlt : i < a.length := by
      rw [hz', hS'] at h1
      have h1' : (i : Int) < (a.length : Int) := of_decide_eq_true h1
      omega
    have einc : z' .ar .add .i64 (Int.ofNat i) 1 = Int.ofNat (i + 1) := by rw [hz']; exact rz_inc i (by omega)
    have hidx : S' .idx Mac a (Int.ofNat i) := by rw [hS']; simp [reals]; omega
    have e0 : z' .ar .add .i64 (S' .len Int []) (S' .len Int []) = 0 := by rw [hz', hS']; rfl
    have e1 : z' .lt 0 0 = false := by rw [hz']; rfl
    cbv
    refine ⟨hidx, hidx, ?_⟩
    generalize S' .at_ Mac ⟨0, 0, 0, 0, 0, 0, 0⟩ a (z' .nat (Int.ofNat i)) = x
    obtain ⟨x1, x2, x3, x4, x5, x6, x7⟩ := x
    cbv
    rw [hne']
    cbv
    rw [hne']
    cbv
    rw [hne']
    cbv
    rw [hne']
    cbv
    rw [hne']
    cbv
    rw [hne']
    cbv
    rw [hne']
    cbv
    rw [e0, e1]
    cbv
    apply hQ
    rw [einc]
    exact ⟨_, _, _, by omega, .trans (.keep [0, 1, 5]) (.drop 0 rfl (Nat.zero_le _)), i + 1, hlt, rfl, rfl, rfl⟩

theorem few_ct (yl : Nat) (fl : Bool) (l : List Move) : CT Try.prog (Cx.plain yl) noAr 15 [vM fl l] [] (fun o H => ∃ l', l' = l.take 24 ∧ o = .ret (vM false l') ∧ H = []) := by
  refine CT_of_W (tab := tabM) (D := []) (tr := noTr) Try.func15 (by kernel_rfl) rfl tabM_ok (Cx.plain_ok _ _) (by kernel_rfl) (fun z S R hz hS hR => ?_)
  cbv
  rcases h1 : z .lt 24 (S .len (Int × Int) l) with _ | _
  · have h1' : l.length ≤ 24 := by
      rw [hz, hS] at h1
      have : ¬ (24 : Int) < (l.length : Int) := of_decide_eq_false h1
      omega
    cbv
    exact hR _ _ _ _ (.slot 0 LeV.sl) ⟨l, (List.take_of_length_le h1').symm, rfl, rfl⟩
  · have h1' : 24 < l.length := by
      rw [hz, hS] at h1
      have : (24 : Int) < (l.length : Int) := of_decide_eq_true h1
      omega
    cbv
    refine ⟨by rw [hz, hS]; exact ⟨by decide, by simp [reals]; omega⟩, ?_⟩
    refine hR _ _ _ _ (Wk.refl _ _) ⟨_, rfl, ?_, rfl⟩
    subst hz hS
    rfl

def spotR (n : Int) : Int := if n < 12 then n else n + 4

theorem spot_ct (yl : Nat) (n : Int) (h0 : 0 ≤ n) (h1 : n ≤ 100) : CT Try.prog (Cx.plain yl) noAr 27 [.int .i64 n] [] (fun o H => ∃ r, r = spotR n ∧ o = .ret (.int .i64 r) ∧ H = []) := by
  refine CT_of_W (tab := tabM) (D := []) (tr := noTr) Try.func27 (by kernel_rfl) rfl tabM_ok (Cx.plain_ok _ _) (by kernel_rfl) (fun z S R hz hS hR => ?_)
  cbv
  rcases h2 : z .lt n 12 with _ | _
  · have h2' : ¬ n < 12 := by rw [hz] at h2; exact of_decide_eq_false h2
    have e : z .ar .add .i64 n 4 = n + 4 := by rw [hz]; exact rz_add (by omega) (by omega)
    cbv
    rw [e]
    exact hR _ _ _ _ (Wk.refl _ _) ⟨_, (if_neg h2').symm, rfl, rfl⟩
  · have h2' : n < 12 := by rw [hz] at h2; exact of_decide_eq_true h2
    cbv
    exact hR _ _ _ _ (Wk.refl _ _) ⟨_, (if_pos h2').symm, rfl, rfl⟩

def restR (x : Int) (n : Int) : Int := ((x.tmod n) + n).tmod n

/-- The moves of the first numbers. -/
def madeTo (s : List Int) (i : Nat) : List Move := (List.range i).flatMap fun j => if restR (s.getD j 0) 24 < 20 then [(spotR j, spotR (restR (s.getD j 0) 24))] else []
def madeR (s : List Int) : List Move := madeTo s (min s.length 20)

theorem madeTo_succ (s : List Int) (i : Nat) : madeTo s (i + 1) = madeTo s i ++ if restR (s.getD i 0) 24 < 20 then [(spotR i, spotR (restR (s.getD i 0) 24))] else [] := by
  simp [madeTo, List.range_succ]

theorem madeTo_len (s : List Int) : ∀ i, (madeTo s i).length ≤ i
  | 0 => by simp [madeTo]
  | i + 1 => by
    have := madeTo_len s i
    rw [madeTo_succ]
    split <;> simp <;> omega

theorem rest_range (x : Int) : 0 ≤ restR x 24 ∧ restR x 24 < 24 := by
  unfold restR
  have h1 := Int.lt_tmod_of_pos x (b := 24) (by decide)
  exact ⟨Int.tmod_nonneg _ (by omega), Int.tmod_lt_of_pos _ (by decide)⟩

theorem made_ct (yl : Nat) (fl : Bool) (s : List Int) : CT Try.prog (Cx.plain yl) noAr 13 [vI fl s] [] (fun o H => ∃ l, l = madeR s ∧ o = .ret (vM false l) ∧ H = []) := by
  refine CT_of_W (tab := tabM) (D := []) (tr := noTr) Try.func13 (by kernel_rfl) rfl tabM_ok (Cx.plain_ok _ _) (by kernel_rfl) (fun z S R hz hS hR => ?_)
  cbv
  refine tri_loop hS (Cx.plain_ok _ _) (Nat.le_refl _) (fun m env H => ∃ (i : Nat) (n : Nat) (ys : List Move), i ≤ min s.length 20 ∧ m = min s.length 20 - i ∧ ys = madeTo s i ∧ n = ys.length ∧
      env = mkE 36 [(0, vI fl s), (3, .ref 0 2 0 n), (4, .int .i64 i)] ∧ H = [.arr 31 elM ys]) (min s.length 20)
    (.trans (.keep [0, 3, 4]) (.own 3 31 elM_ok rfl)) (Nat.zero_le _) ⟨0, 0, [], Nat.zero_le _, rfl, rfl, rfl, rfl, rfl⟩ ?_
  rintro m env H ⟨i, n, ys, hi, rfl, hys, hn, rfl, rfl⟩ hh
  have hny : n ≤ 20 := by
    rw [hn, hys]
    have := madeTo_len s i
    omega
  refine T_of_W (tab := tabM) (D := []) (tr := noTr) tabM_ok (Cx.plain_ok _ _) (by kernel_rfl) hh (fun z' S' Q' hz' hS' hQ => ?_)
  have fin : i = min s.length 20 → R [.ref 0 2 0 n] [.arr 31 elM ys] := fun e => by
    refine hR _ _ _ _ (.trans (.freeze 0 rfl) (.drop 0 rfl (Nat.zero_le _))) ⟨_, rfl, ?_, rfl⟩
    show Out.ret (vM false (ys.take n)) = _
    rw [hn, List.take_length, hys, e]; rfl
  cbv
  rcases h1 : z' .lt (Int.ofNat i) (S' .len Int s) with _ | _
  · have h1' : ¬ i < s.length := by
      rw [hz', hS'] at h1
      have : ¬ (i : Int) < (s.length : Int) := of_decide_eq_false h1
      omega
    cbv
    apply hQ
    cbv
    exact fin (by omega)
  · have h1' : i < s.length := by
      rw [hz', hS'] at h1
      have : (i : Int) < (s.length : Int) := of_decide_eq_true h1
      omega
    cbv
    rcases h2 : z' .lt (Int.ofNat i) 20 with _ | _
    · have h2' : ¬ i < 20 := by
        rw [hz'] at h2
        have : ¬ (i : Int) < (20 : Int) := of_decide_eq_false h2
        omega
      cbv
      apply hQ
      cbv
      exact fin (by omega)
    · have h2' : i < 20 := by
        rw [hz'] at h2
        have : (i : Int) < (20 : Int) := of_decide_eq_true h2
        omega
      have hnext := madeTo_succ s i
      have hrr := rest_range (s.getD i 0)
      have eat : S' .at_ Int 0 s (z' .nat (Int.ofNat i)) = s.getD i 0 := by rw [hS', hz']; rfl
      have einc : z' .ar .add .i64 (Int.ofNat i) 1 = Int.ofNat (i + 1) := by rw [hz']; exact rz_inc i (by omega)
      cbv
      refine use_ct [] hS' (Cx.plain_ok _ _) rfl (fun yl => spot_ct yl (Int.ofNat i) (Int.natCast_nonneg _) (by simp only [Int.ofNat_eq_natCast]; omega)) (may_none []) ?_
      rintro o h' ⟨p, hp, rfl, rfl⟩
      have h3 : ∀ x y : Int, y ≠ 0 → z' .arok .rem .i64 x y := fun x y h => by rw [hz']; exact h
      cbv
      refine ⟨by rw [hS']; simp [reals]; omega, h3 _ _ (by decide), h3 _ _ (by decide), ?_⟩
      rw [eat]
      have e1 : z' .ar .rem .i64 (z' .ar .add .i64 (z' .ar .rem .i64 (s.getD i 0) 24) 24) 24 = restR (s.getD i 0) 24 := by
        rw [hz']
        have h1 := Int.lt_tmod_of_pos (s.getD i 0) (b := 24) (by decide)
        have h2 := Int.tmod_lt_of_pos (s.getD i 0) (b := 24) (by decide)
        show Int.tmod (IntKind.wrap .i64 (Int.tmod (s.getD i 0) 24 + 24)) 24 = _
        rw [wrap_small (by omega) (by omega)]; rfl
      rw [e1]
      generalize restR (s.getD i 0) 24 = f at hnext hrr ⊢
      rcases h4 : z' .lt f 20 with _ | _
      · have h4' : ¬ f < 20 := by rw [hz'] at h4; exact of_decide_eq_false h4
        cbv
        apply hQ
        rw [einc]
        exact ⟨_, _, _, by omega, .keep [0, 3, 4], i + 1, n, ys, by omega, rfl, by rw [hnext, if_neg h4', List.append_nil]; exact hys, hn, rfl, rfl⟩
      · have h4' : f < 20 := by rw [hz'] at h4; exact of_decide_eq_true h4
        cbv
        refine use_ct [] hS' (Cx.plain_ok _ _) rfl (fun yl => spot_ct yl f (by omega) (by omega)) (may_none []) ?_
        rintro o h' ⟨r, hr, rfl, rfl⟩
        cbv
        refine ⟨by rw [hz']; show n + 1 ≤ 1000000; omega, by rw [hS']; exact fun k hk => absurd hk (Nat.not_lt_zero _), ?_⟩
        apply hQ
        rw [einc]
        refine ⟨_, _, _, by omega, .keep [0, 3, 4], i + 1, n + 1, ys ++ [(p, r)], by omega, rfl, by rw [hnext, if_pos h4', hys, hp, hr]; rfl, by simp [hn], by rw [hz']; rfl, ?_⟩
        rw [hS']
        show [Blk.arr 31 elM ((ys.take n).drop 0 ++ [(p, r)])] = _
        rw [hn, List.take_length]; rfl

theorem loopR_len (sc sp : Int) : ∀ (f : Nat) (l : List Move) (s : List Mac × Int), l.length ≤ 24 → (loopR sc sp f l s).1.length ≤ s.1.length + 200 * f
  | 0, _, s, _ => by simp [loopR]
  | f + 1, l, s, hl => by
    simp only [loopR]
    split
    · omega
    · split
      · have h1 := loopR_len sc sp f (l.filter fun m => m.1 != freeR l) (bringR sc sp s (freeR l) (sourceR l (freeR l))) (Nat.le_trans (List.length_filter_le _ _) hl)
        have h2 := bringR_len sc sp s (freeR l) (sourceR l (freeR l))
        omega
      · have h1 := loopR_len sc sp f (dropAll l (circleR l (minTo l))) (roundR sc sp s (circleR l (minTo l))) (Nat.le_trans (dropAll_le _ _) hl)
        have h2 := roundR_len sc sp s (circleR l (minTo l))
        have h3 := circle_len l (minTo l)
        omega

theorem order_len (l : List Move) (sc sp : Int) (hl : l.length ≤ 24) : (orderR l sc sp).1.length ≤ 100000 := by
  have h1 : (realM l).length ≤ 24 := Nat.le_trans (List.length_filter_le _ _) hl
  have h2 := loopR_len sc sp (realM l).length (realM l) ([], 0) h1
  unfold orderR
  split
  · simp
  · simp only
    split
    · simp
    · simp only [List.length_nil] at h2
      show (loopR sc sp (realM l).length (realM l) ([], 0)).1.length ≤ 100000
      omega

/-- Orders that are told alike. -/
theorem tells_ct (yl : Nat) (fl : Bool) (l : List Move) (sc sp : Int) (hl : l.length ≤ 24) (h4 : -9223372036854775808 ≤ sp) : CT Try.prog (Cx.plain yl) noAr 14 [vM fl l, .int .i64 sc, .int .i64 sp] [] (fun o H => o = .ret (.bool true) ∧ H = []) := by
  refine CT_of_W (tab := tabM) (D := []) (tr := noTr) Try.func14 (by kernel_rfl) rfl tabM_ok (Cx.plain_ok _ _) (by kernel_rfl) (fun z S R hz hS hR => ?_)
  have heq : ∀ x : Int, z .eq x x = true := fun x => by rw [hz]; exact beq_self_eq_true x
  have hol := order_len l sc sp hl
  cbv
  refine use_ct [] hS (Cx.plain_ok _ _) rfl (fun yl => order17_ct yl fl l sc sp hl h4) (may_none []) ?_
  rintro o h' ⟨rfl, rfl⟩
  generalize hor : orderR l sc sp = s at hol
  obtain ⟨out, err⟩ := s
  cbv
  refine use_ct [] hS (Cx.plain_ok _ _) rfl (fun yl => order28_ct yl fl l sc sp hl h4) (may_none []) ?_
  rw [hor]
  rintro o h' ⟨rfl, rfl⟩
  cbv
  rw [heq]
  cbv
  refine use_ct [] hS (Cx.plain_ok _ _) rfl (fun yl => same_ct yl false false out hol) (may_none []) ?_
  rintro o h' ⟨rfl, rfl⟩
  cbv
  exact hR _ _ _ _ (.drop 0 rfl (Nat.zero_le _)) ⟨rfl, rfl⟩
end Go.Ab
