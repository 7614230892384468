/- Contracts of the program's functions over an abstract state, and what they rest on: part AbN. No condition. -/
import Derived.Test.YtdpmlgfkdgabkaaAbD
set_option linter.unusedVariables false
set_option linter.unusedSimpArgs false

/- Places: reading and writing (printed by wip/tools/genat.py, but for what stands ahead). -/
namespace Go.Ab
open Go.Proofs

def vJ (fl : Bool) (l : List Int) : V := .sl Int 0 1 encJ fl l

def atR (p : List Int) (n : Int) : Int := if n < 0 ∨ (p.length : Int) ≤ n then 0 else p.getD n.toNat 0
def putR (xs : List Int) (n v : Int) : List Int := if 0 ≤ n ∧ n < (xs.length : Int) then xs.set n.toNat v else xs

theorem at42_ct (yl : Nat) (fl : Bool) (p : List Int) (n : Int) : CT Try.prog (Cx.plain yl) noAr 42 [vJ fl p, .int .i64 n] [] (fun o H => ∃ r, r = atR p n ∧ o = .ret (.int .i32 r) ∧ H = []) := by
  refine CT_of_W (tab := tabM) (D := []) (tr := noTr) Try.func42 (by kernel_rfl) rfl tabM_ok (Cx.plain_ok _ _) (by kernel_rfl) (fun z S R hz hS hR => ?_)
  have hR' : ∀ r, r = atR p n → R [.int .i32 r] [] := fun r h => hR _ _ _ _ (Wk.refl _ _) ⟨r, h, rfl, rfl⟩
  cbv
  rcases h1 : z .lt n 0 with _ | _
  · have h1' : ¬ n < 0 := by rw [hz] at h1; exact of_decide_eq_false h1
    cbv
    rcases h2 : z .le (S .len Int p) n with _ | _
    · have h2' : ¬ (p.length : Int) ≤ n := by rw [hz, hS] at h2; exact of_decide_eq_false h2
      cbv
      refine ⟨by rw [hS]; exact ⟨Int.not_lt.1 h1', Int.not_le.1 h2'⟩, hR' _ ?_⟩
      rw [atR, if_neg (fun h => h.elim h1' h2'), hz, hS]; rfl
    · have h2' : (p.length : Int) ≤ n := by rw [hz, hS] at h2; exact of_decide_eq_true h2
      cbv
      exact hR' 0 (by rw [atR, if_pos (.inr h2')])
  · have h1' : n < 0 := by rw [hz] at h1; exact of_decide_eq_true h1
    cbv
    exact hR' 0 (by rw [atR, if_pos (.inl h1')])


theorem at42r_ct (yl : Nat) (k : Nat) (xs : List Int) (n : Int) (hk : k = xs.length) : CT Try.prog (Cx.plain yl) noAr 42 [.ref 0 1 0 k, .int .i64 n] [.arr 21 elJ xs] (fun o H => ∃ r, r = atR xs n ∧ o = .ret (.int .i32 r) ∧ H = [.arr 21 elJ xs]) := by
  refine CT_of_W (tab := tabM) (D := []) (tr := noTr) Try.func42 (by kernel_rfl) rfl tabM_ok (Cx.plain_ok _ _) (by kernel_rfl) (fun z S R hz hS hR => ?_)
  have hR' : ∀ r, r = atR xs n → R [.int .i32 r] [.arr 21 elJ xs] := fun r h => hR _ _ _ _ (Wk.refl _ _) ⟨r, h, rfl, rfl⟩
  cbv
  rcases h1 : z .lt n 0 with _ | _
  · have h1' : ¬ n < 0 := by rw [hz] at h1; exact of_decide_eq_false h1
    cbv
    rcases h2 : z .le (Int.ofNat k) n with _ | _
    · have h2' : ¬ (xs.length : Int) ≤ n := by rw [← hk]; rw [hz] at h2; exact of_decide_eq_false h2
      cbv
      refine ⟨by rw [hz, hk]; exact ⟨Int.not_lt.1 h1', Int.not_le.1 h2'⟩, hR' _ ?_⟩
      have e : z .add 0 (z .nat n) = n.toNat := by rw [hz]; exact Nat.zero_add _
      rw [atR, if_neg (fun h => h.elim h1' h2'), e, hS]; rfl
    · have h2' : (xs.length : Int) ≤ n := by rw [← hk]; rw [hz] at h2; exact of_decide_eq_true h2
      cbv
      exact hR' 0 (by rw [atR, if_pos (.inr h2')])
  · have h1' : n < 0 := by rw [hz] at h1; exact of_decide_eq_true h1
    cbv
    exact hR' 0 (by rw [atR, if_pos (.inl h1')])


theorem at47_ct (yl : Nat) (fl : Bool) (p : List Int) (n : Int) : CT Try.prog (Cx.plain yl) noAr 47 [vJ fl p, .int .i64 n] [] (fun o H => ∃ r, r = atR p n ∧ o = .ret (.int .i32 r) ∧ H = []) := by
  refine CT_of_W (tab := tabM) (D := []) (tr := noTr) Try.func47 (by kernel_rfl) rfl tabM_ok (Cx.plain_ok _ _) (by kernel_rfl) (fun z S R hz hS hR => ?_)
  have hR' : ∀ r, r = atR p n → R [.int .i32 r] [] := fun r h => hR _ _ _ _ (Wk.refl _ _) ⟨r, h, rfl, rfl⟩
  cbv
  rcases h1 : z .lt n 0 with _ | _
  · have h1' : ¬ n < 0 := by rw [hz] at h1; exact of_decide_eq_false h1
    cbv
    rcases h2 : z .le (S .len Int p) n with _ | _
    · have h2' : ¬ (p.length : Int) ≤ n := by rw [hz, hS] at h2; exact of_decide_eq_false h2
      cbv
      refine ⟨by rw [hS]; exact ⟨Int.not_lt.1 h1', Int.not_le.1 h2'⟩, hR' _ ?_⟩
      rw [atR, if_neg (fun h => h.elim h1' h2'), hz, hS]; rfl
    · have h2' : (p.length : Int) ≤ n := by rw [hz, hS] at h2; exact of_decide_eq_true h2
      cbv
      exact hR' 0 (by rw [atR, if_pos (.inr h2')])
  · have h1' : n < 0 := by rw [hz] at h1; exact of_decide_eq_true h1
    cbv
    exact hR' 0 (by rw [atR, if_pos (.inl h1')])


theorem at47r_ct (yl : Nat) (k : Nat) (xs : List Int) (n : Int) (hk : k = xs.length) : CT Try.prog (Cx.plain yl) noAr 47 [.ref 0 1 0 k, .int .i64 n] [.arr 21 elJ xs] (fun o H => ∃ r, r = atR xs n ∧ o = .ret (.int .i32 r) ∧ H = [.arr 21 elJ xs]) := by
  refine CT_of_W (tab := tabM) (D := []) (tr := noTr) Try.func47 (by kernel_rfl) rfl tabM_ok (Cx.plain_ok _ _) (by kernel_rfl) (fun z S R hz hS hR => ?_)
  have hR' : ∀ r, r = atR xs n → R [.int .i32 r] [.arr 21 elJ xs] := fun r h => hR _ _ _ _ (Wk.refl _ _) ⟨r, h, rfl, rfl⟩
  cbv
  rcases h1 : z .lt n 0 with _ | _
  · have h1' : ¬ n < 0 := by rw [hz] at h1; exact of_decide_eq_false h1
    cbv
    rcases h2 : z .le (Int.ofNat k) n with _ | _
    · have h2' : ¬ (xs.length : Int) ≤ n := by rw [← hk]; rw [hz] at h2; exact of_decide_eq_false h2
      cbv
      refine ⟨by rw [hz, hk]; exact ⟨Int.not_lt.1 h1', Int.not_le.1 h2'⟩, hR' _ ?_⟩
      have e : z .add 0 (z .nat n) = n.toNat := by rw [hz]; exact Nat.zero_add _
      rw [atR, if_neg (fun h => h.elim h1' h2'), e, hS]; rfl
    · have h2' : (xs.length : Int) ≤ n := by rw [← hk]; rw [hz] at h2; exact of_decide_eq_true h2
      cbv
      exact hR' 0 (by rw [atR, if_pos (.inr h2')])
  · have h1' : n < 0 := by rw [hz] at h1; exact of_decide_eq_true h1
    cbv
    exact hR' 0 (by rw [atR, if_pos (.inl h1')])


theorem put41_ct (yl : Nat) (k : Nat) (xs : List Int) (n v : Int) (hk : k = xs.length) : CT Try.prog (Cx.plain yl) noAr 41 [.ref 0 1 0 k, .int .i64 n, .int .i32 v] [.arr 21 elJ xs] (fun o H => ∃ ys, ys = putR xs n v ∧ o = .ret (.tuple []) ∧ H = [.arr 21 elJ ys]) := by
  refine CT_of_W (tab := tabM) (D := []) (tr := noTr) Try.func41 (by kernel_rfl) rfl tabM_ok (Cx.plain_ok _ _) (by kernel_rfl) (fun z S R hz hS hR => ?_)
  have hR' : ∀ ys, ys = putR xs n v → R [] [.arr 21 elJ ys] := fun ys h => hR _ _ _ _ (Wk.refl _ _) ⟨ys, h, rfl, rfl⟩
  cbv
  rcases h1 : z .le 0 n with _ | _
  · have h1' : ¬ 0 ≤ n := by rw [hz] at h1; exact of_decide_eq_false h1
    cbv
    exact hR' xs (by rw [putR, if_neg (fun h => h1' h.1)])
  · have h1' : 0 ≤ n := by rw [hz] at h1; exact of_decide_eq_true h1
    cbv
    rcases h2 : z .lt n (Int.ofNat k) with _ | _
    · have h2' : ¬ n < (xs.length : Int) := by rw [← hk]; rw [hz] at h2; exact of_decide_eq_false h2
      cbv
      exact hR' xs (by rw [putR, if_neg (fun h => h2' h.2)])
    · have h2' : n < (xs.length : Int) := by rw [← hk]; rw [hz] at h2; exact of_decide_eq_true h2
      cbv
      refine ⟨by rw [hz, hk]; exact ⟨h1', h2'⟩, hR' _ ?_⟩
      have e : z .add 0 (z .nat n) = n.toNat := by rw [hz]; exact Nat.zero_add _
      rw [putR, if_pos ⟨h1', h2'⟩, e, hS]; rfl


theorem put45_ct (yl : Nat) (k : Nat) (xs : List Int) (n v : Int) (hk : k = xs.length) : CT Try.prog (Cx.plain yl) noAr 45 [.ref 0 1 0 k, .int .i64 n, .int .i32 v] [.arr 21 elJ xs] (fun o H => ∃ ys, ys = putR xs n v ∧ o = .ret (.tuple []) ∧ H = [.arr 21 elJ ys]) := by
  refine CT_of_W (tab := tabM) (D := []) (tr := noTr) Try.func45 (by kernel_rfl) rfl tabM_ok (Cx.plain_ok _ _) (by kernel_rfl) (fun z S R hz hS hR => ?_)
  have hR' : ∀ ys, ys = putR xs n v → R [] [.arr 21 elJ ys] := fun ys h => hR _ _ _ _ (Wk.refl _ _) ⟨ys, h, rfl, rfl⟩
  cbv
  rcases h1 : z .le 0 n with _ | _
  · have h1' : ¬ 0 ≤ n := by rw [hz] at h1; exact of_decide_eq_false h1
    cbv
    exact hR' xs (by rw [putR, if_neg (fun h => h1' h.1)])
  · have h1' : 0 ≤ n := by rw [hz] at h1; exact of_decide_eq_true h1
    cbv
    rcases h2 : z .lt n (Int.ofNat k) with _ | _
    · have h2' : ¬ n < (xs.length : Int) := by rw [← hk]; rw [hz] at h2; exact of_decide_eq_false h2
      cbv
      exact hR' xs (by rw [putR, if_neg (fun h => h2' h.2)])
    · have h2' : n < (xs.length : Int) := by rw [← hk]; rw [hz] at h2; exact of_decide_eq_true h2
      cbv
      refine ⟨by rw [hz, hk]; exact ⟨h1', h2'⟩, hR' _ ?_⟩
      have e : z .add 0 (z .nat n) = n.toNat := by rw [hz]; exact Nat.zero_add _
      rw [putR, if_pos ⟨h1', h2'⟩, e, hS]; rfl

end Go.Ab

/- Places: After. -/
namespace Go.Ab
open Go.Proofs

def tr22 : Nat → DT := fun _ => (.take 0 (.take 1 (.take 2 (.take 4 (.take 5 (.take 6 (.alt 3 (.alt 7 (.take 8 .done) .stop) (.alt 7 (.alt 3 (.take 8 .done) .stop) .stop))))))))

theorem words_ct (yl : Nat) (fa fb : Bool) (a : List Int) (hl : a.length ≤ 100000) : CT Try.prog (Cx.plain yl) noAr 22 [vJ fa a, vJ fb a] [] (fun o H => o = .ret (.bool true) ∧ H = []) := by
  refine CT_of_W (tab := tabM) (D := []) (tr := tr22) Try.func22 (by kernel_rfl) rfl tabM_ok (Cx.plain_ok _ _) (by kernel_rfl) (fun z S R hz hS hR => ?_)
  have hne : ∀ x : Int, z .ne x x = false := fun x => by rw [hz]; exact bne_self_eq_false x
  cbv
  rw [hne]
  cbv
  refine tri_loop hS (Cx.plain_ok _ _) (Nat.le_refl _) (fun m env H => ∃ i : Nat, i ≤ a.length ∧ m = a.length - i ∧
      env = mkE 26 [(0, vJ fa a), (1, vJ fb a), (5, .int .i64 i)] ∧ H = []) a.length
    (.keep [0, 1, 5]) (Nat.zero_le _) ⟨0, Nat.zero_le _, rfl, rfl, rfl⟩ ?_
  rintro m env H ⟨i, hi, rfl, rfl, rfl⟩ hh
  refine T_of_W (tab := tabM) (D := []) (tr := tr22) tabM_ok (Cx.plain_ok _ _) (by kernel_rfl) hh (fun z' S' Q' hz' hS' hQ => ?_)
  have hne' : ∀ x : Int, z' .ne x x = false := fun x => by rw [hz']; exact bne_self_eq_false x
  cbv
  rcases h1 : z' .lt (Int.ofNat i) (S' .len Int a) with _ | _
  · cbv
    apply hQ
    cbv
    exact hR _ _ _ _ (Wk.refl _ _) ⟨rfl, rfl⟩
  · have hlt : i < a.length := by
      rw [hz', hS'] at h1
      have h1' : (i : Int) < (a.length : Int) := of_decide_eq_true h1
      omega
    have einc : z' .ar .add .i64 (Int.ofNat i) 1 = Int.ofNat (i + 1) := by rw [hz']; exact rz_inc i (by omega)
    have hidx : S' .idx Int a (Int.ofNat i) := by rw [hS']; simp [reals]; omega
    cbv
    refine ⟨by rw [hS']; exact ⟨rfl, by kernel_rfl⟩, hidx, hidx, ?_⟩
    rw [hne']
    cbv
    rw [einc]
    refine ⟨⟨?_, trivial⟩, ⟨?_, trivial⟩, trivial⟩ <;>
    · apply hQ
      exact ⟨_, _, _, by omega, .keep [0, 1, 5], i + 1, hlt, rfl, rfl, rfl⟩

def regI (n : Int) : Int := if 16 ≤ n then -1 else n
def regR (n : Int) : Int := if n < 0 ∨ 15 < n then -1 else n
def slotR (n : Int) : Int := if n < 0 then -1 else realz .ar .add .i64 16 (realz .wr .i64 n)

theorem regI_ct (yl : Nat) (n : Int) : CT Try.prog (Cx.plain yl) noAr 43 [.int .i64 n] [] (fun o H => ∃ r, r = regI n ∧ o = .ret (.int .i64 r) ∧ H = []) := by
  refine CT_of_W (tab := tabM) (D := []) (tr := noTr) Try.func43 (by kernel_rfl) rfl tabM_ok (Cx.plain_ok _ _) (by kernel_rfl) (fun z S R hz hS hR => ?_)
  cbv
  rcases h1 : z .le 16 n with _ | _
  · have h1' : ¬ 16 ≤ n := by rw [hz] at h1; exact of_decide_eq_false h1
    cbv
    exact hR _ _ _ _ (Wk.refl _ _) ⟨n, (if_neg h1').symm, rfl, rfl⟩
  · have h1' : 16 ≤ n := by rw [hz] at h1; exact of_decide_eq_true h1
    cbv
    exact hR _ _ _ _ (Wk.refl _ _) ⟨_, (if_pos h1').symm, rfl, rfl⟩

theorem regR_ct (yl : Nat) (n : Int) : CT Try.prog (Cx.plain yl) noAr 46 [.int .i64 n] [] (fun o H => ∃ r, r = regR n ∧ o = .ret (.int .i64 r) ∧ H = []) := by
  refine CT_of_W (tab := tabM) (D := []) (tr := noTr) Try.func46 (by kernel_rfl) rfl tabM_ok (Cx.plain_ok _ _) (by kernel_rfl) (fun z S R hz hS hR => ?_)
  cbv
  rcases h1 : z .lt n 0 with _ | _
  · have h1' : ¬ n < 0 := by rw [hz] at h1; exact of_decide_eq_false h1
    cbv
    rcases h2 : z .lt 15 n with _ | _
    · have h2' : ¬ 15 < n := by rw [hz] at h2; exact of_decide_eq_false h2
      cbv
      exact hR _ _ _ _ (Wk.refl _ _) ⟨n, (if_neg (fun h => h.elim h1' h2')).symm, rfl, rfl⟩
    · have h2' : 15 < n := by rw [hz] at h2; exact of_decide_eq_true h2
      cbv
      exact hR _ _ _ _ (Wk.refl _ _) ⟨_, (if_pos (.inr h2')).symm, rfl, rfl⟩
  · have h1' : n < 0 := by rw [hz] at h1; exact of_decide_eq_true h1
    cbv
    exact hR _ _ _ _ (Wk.refl _ _) ⟨_, (if_pos (.inl h1')).symm, rfl, rfl⟩

theorem slotI_ct (yl : Nat) (n : Int) : CT Try.prog (Cx.plain yl) noAr 44 [.int .i32 n] [] (fun o H => ∃ r, r = slotR n ∧ o = .ret (.int .i64 r) ∧ H = []) := by
  refine CT_of_W (tab := tabM) (D := []) (tr := noTr) Try.func44 (by kernel_rfl) rfl tabM_ok (Cx.plain_ok _ _) (by kernel_rfl) (fun z S R hz hS hR => ?_)
  cbv
  rcases h1 : z .lt n 0 with _ | _
  · have h1' : ¬ n < 0 := by rw [hz] at h1; exact of_decide_eq_false h1
    cbv
    exact hR _ _ _ _ (Wk.refl _ _) ⟨_, by rw [slotR, if_neg h1', hz], rfl, rfl⟩
  · have h1' : n < 0 := by rw [hz] at h1; exact of_decide_eq_true h1
    cbv
    exact hR _ _ _ _ (Wk.refl _ _) ⟨_, (if_pos h1').symm, rfl, rfl⟩

theorem slotR_ct (yl : Nat) (n : Int) : CT Try.prog (Cx.plain yl) noAr 48 [.int .i32 n] [] (fun o H => ∃ r, r = slotR n ∧ o = .ret (.int .i64 r) ∧ H = []) := by
  refine CT_of_W (tab := tabM) (D := []) (tr := noTr) Try.func48 (by kernel_rfl) rfl tabM_ok (Cx.plain_ok _ _) (by kernel_rfl) (fun z S R hz hS hR => ?_)
  cbv
  rcases h1 : z .lt n 0 with _ | _
  · have h1' : ¬ n < 0 := by rw [hz] at h1; exact of_decide_eq_false h1
    cbv
    exact hR _ _ _ _ (Wk.refl _ _) ⟨_, by rw [slotR, if_neg h1', hz], rfl, rfl⟩
  · have h1' : n < 0 := by rw [hz] at h1; exact of_decide_eq_true h1
    cbv
    exact hR _ _ _ _ (Wk.refl _ _) ⟨_, (if_pos h1').symm, rfl, rfl⟩

/-- A row of one's own. -/
theorem clone_ct (yl : Nat) (fl : Bool) (p : List Int) (hl : p.length ≤ 100000) : CT Try.prog (Cx.plain yl) noAr 40 [vJ fl p] [] (fun o H => ∃ n ys, ys = p ∧ n = ys.length ∧ o = .ret (.ref 0 1 0 n) ∧ H = [.arr 21 elJ ys]) := by
  refine CT_of_W (tab := tabM) (D := [5]) (tr := noTr) Try.func40 (by kernel_rfl) rfl tabM_ok (Cx.plain_ok _ _) (by kernel_rfl) (fun z S R hz hS hR => ?_)
  cbv
  intro b hb
  cases b with
  | true =>
    have hp := hb rfl
    cbv
    refine hR _ _ _ _ (.own 0 21 elJ_ok rfl) ⟨0, [], hp.symm, rfl, rfl, rfl⟩
  | false =>
    cbv
    refine ⟨fl, p, rfl, by rw [hz]; show 0 + p.length ≤ 1000000; omega, by rw [hS]; exact fun k hk => absurd hk (Nat.not_lt_zero _), ?_⟩
    refine hR _ _ _ _ (Wk.refl _ _) ⟨_, _, rfl, rfl, ?_, ?_⟩
    · rw [hz]
      show Out.ret (V.ref 0 1 0 (0 + p.length)) = _
      rw [Nat.zero_add]
    · rw [hS]; rfl

/-- What one owns is told as what stays. -/
theorem CT.freeze {f : Nat} {args : List V} {Pr : List Int → Prop} {yl : Nat} (h : CT Try.prog (Cx.plain yl) noAr f args [] (fun o H => ∃ n ys, Pr ys ∧ n = ys.length ∧ o = .ret (.ref 0 1 0 n) ∧ H = [.arr 21 elJ ys])) :
    CT Try.prog (Cx.plain yl) noAr f args [] (fun o H => ∃ ys, Pr ys ∧ o = .ret (vJ false ys) ∧ H = []) := by
  refine ⟨h.1, fun G w vs hc s r => CallsIn.mono (h.2 G w vs hc s r) (fun e w' he => ?_)⟩
  obtain ⟨G', x, H', hend, hext, hs, n, ys, hP, hn, rfl, rfl⟩ := he
  have hwk : Wk ⟨0, noAr⟩ [V.ref 0 1 0 n] [.arr 21 elJ ys] [vJ false ys] [] := by
    have h1 : Wk ⟨0, noAr⟩ [V.ref 0 1 0 n] [.arr 21 elJ ys] (frzL 0 elJ ys [V.ref 0 1 0 n]) ((mapF 0 elJ ys [.arr 21 elJ ys]).set 0 .dead) := .freeze 0 rfl
    have h2 := h1.trans (.drop 0 rfl (Nat.zero_le _))
    have e : frzL 0 elJ ys [V.ref 0 1 0 n] = [vJ false ys] := by
      show [V.sl Int 0 1 encJ false (ys.take n)] = _
      rw [hn, List.take_length]; rfl
    rw [e] at h2
    exact h2
  cases e with
  | returned v =>
    have hr : RepL G' w' [v] [V.ref 0 1 0 n] := ⟨rfl, fun i c y hc hy => by
      match i with
      | 0 => cases hc; cases hy; exact hend
      | i + 1 => simp at hc⟩
    obtain ⟨G'', e2, s2, r2, _⟩ := hwk G' w' [v] hs (Nat.zero_le _) hr
    exact ⟨G'', .ret (vJ false ys), [], r2.2 0 v _ rfl rfl, hext.trans e2, s2, ys, hP, rfl, rfl⟩
  | panicked c => exact hend.elim
  | outgrown => exact hend.elim

def afterR (l : List Move) (p : List Int) : List Int := l.foldl (fun out m => putR out m.1 (atR p m.2)) p

theorem putR_len (xs : List Int) (n v : Int) : (putR xs n v).length = xs.length := by
  unfold putR
  split <;> simp

def tr21 : Nat → DT := fun _ => (.take 0 (.take 1 (.take 3 (.take 4 (.alt 2 (.alt 5 (.alt 6 (.alt 7 .done .stop) .stop) .stop) (.alt 5 (.alt 2 (.alt 6 (.alt 7 .done .stop) .stop) (.alt 6 (.alt 2 (.alt 7 .done .stop) .stop) .stop)) .stop))))))

theorem afterI_ct (yl : Nat) (fl fp : Bool) (l : List Move) (p : List Int) (hl : l.length ≤ 1000) (hp : p.length ≤ 100000) : CT Try.prog (Cx.plain yl) noAr 21 [vM fl l, vJ fp p] [] (fun o H => ∃ n ys, ys = afterR l p ∧ n = ys.length ∧ o = .ret (.ref 0 1 0 n) ∧ H = [.arr 21 elJ ys]) := by
  refine CT_of_W (tab := tabM) (D := []) (tr := tr21) Try.func21 (by kernel_rfl) rfl tabM_ok (Cx.plain_ok _ _) (by kernel_rfl) (fun z S R hz hS hR => ?_)
  cbv
  refine use_ct [] hS (Cx.plain_ok _ _) rfl (fun yl => clone_ct yl fp p hp) (may_none []) ?_
  rintro o h' ⟨n, ys0, hys0, hn, rfl, rfl⟩
  cbv
  refine tri_loop hS (Cx.plain_ok _ _) (Nat.zero_le _) (fun m env H => ∃ (i k n : Nat) (ys : List Int), k = l.length ∧ i ≤ l.length ∧ m = l.length - i ∧ n = ys.length ∧ ys = (l.take i).foldl (fun out m => putR out m.1 (atR p m.2)) p ∧
      env = mkE 26 [(1, vJ fp p), (5, .ref 0 1 0 n), (10, vM fl l), (11, .int .i64 k), (12, .int .i64 i)] ∧ H = [.arr 21 elJ ys]) l.length
    (.keep [1, 5, 10, 11, 12]) (Nat.zero_le _) ⟨0, l.length, n, ys0, rfl, Nat.zero_le _, rfl, hn, hys0, by subst hS; rfl, rfl⟩ ?_
  rintro m env H ⟨i, k, n, ys, hk, hi, rfl, hn, hys, rfl, rfl⟩ hh
  refine T_of_W (tab := tabM) (D := []) (tr := tr21) tabM_ok (Cx.plain_ok _ _) (by kernel_rfl) hh (fun z' S' Q' hz' hS' hQ => ?_)
  cbv
  rcases h1 : z' .lt (Int.ofNat i) (Int.ofNat k) with _ | _
  · have e : i = l.length := by
      rw [hz'] at h1
      have : ¬ (i : Int) < (k : Int) := of_decide_eq_false h1
      omega
    rw [e, List.take_length] at hys
    cbv
    apply hQ
    cbv
    exact hR _ _ _ _ (Wk.refl _ _) ⟨n, ys, hys, hn, rfl, rfl⟩
  · have hlt : i < l.length := by
      rw [hz'] at h1
      have : (i : Int) < (k : Int) := of_decide_eq_true h1
      omega
    have hst := fold_take (fun out (m : Move) => putR out m.1 (atR p m.2)) p l (0, 0) hlt
    have einc : z' .ar .add .i64 (Int.ofNat i) 1 = Int.ofNat (i + 1) := by rw [hz']; exact rz_inc i (by omega)
    have eat : S' .at_ (Int × Int) (0, 0) l (z' .nat (Int.ofNat i)) = l.getD i (0, 0) := by rw [hS', hz']; rfl
    cbv
    refine ⟨by rw [hS']; simp [reals]; omega, by rw [hS']; exact ⟨rfl, by kernel_rfl⟩, ?_⟩
    rw [eat]
    generalize l.getD i (0, 0) = mv at hst ⊢
    obtain ⟨to, frm⟩ := mv
    rw [← hys] at hst
    cbv
    repeat' first
      | exact trivial
      | refine And.intro ?_ ?_
      | (refine use_ct [] hS' (Cx.plain_ok _ _) rfl (fun yl => at42_ct yl fp p frm) (may_none []) ?_; rintro o h' ⟨r, hr, rfl, rfl⟩; cbv)
      | (refine use_ct [0] hS' (Cx.plain_ok _ _) rfl (fun yl => put41_ct yl n ys to r hn) (may_none [0]) ?_; rintro o h' ⟨ys', hys', rfl, rfl⟩; cbv)
      | (rw [einc]; apply hQ; exact ⟨_, _, _, by omega, .trans (.keep [1, 5, 10, 11, 12]) (.drop 1 rfl (Nat.zero_le _)), i + 1, k, n, ys', hk, hlt, rfl, by rw [hn, hys', putR_len], by rw [hst, hys', hr], rfl, rfl⟩)
end Go.Ab

/- Places: After of the reference; start. -/
namespace Go.Ab
open Go.Proofs

def tr25 : Nat → DT := fun _ => (.take 0 (.take 1 (.take 2 (.take 3 (.take 4 (.take 6 (.take 7 (.take 8 (.take 9 (.take 10 (.alt 5 (.alt 11 (.alt 12 (.take 13 (.alt 14 .done .stop)) .stop) .stop) (.alt 11 (.alt 5 (.alt 12 (.take 13 (.alt 14 .done .stop)) .stop) (.alt 12 (.alt 5 (.take 13 (.alt 14 .done .stop)) .stop) .stop)) .stop))))))))))))

theorem afterR_ct (yl : Nat) (fl fp : Bool) (l : List Move) (p : List Int) (hl : l.length ≤ 1000) (hp : p.length ≤ 100000) : CT Try.prog (Cx.plain yl) noAr 25 [vM fl l, vJ fp p] [] (fun o H => ∃ n ys, ys = afterR l p ∧ n = ys.length ∧ o = .ret (.ref 0 1 0 n) ∧ H = [.arr 21 elJ ys]) := by
  refine CT_of_W (tab := tabM) (D := [7]) (tr := tr25) Try.func25 (by kernel_rfl) rfl tabM_ok (Cx.plain_ok _ _) (by kernel_rfl) (fun z S R hz hS hR => ?_)
  cbv
  refine ⟨fp, p, rfl, by rw [hz]; show 0 + p.length ≤ 1000000; omega, by rw [hS]; exact fun k hk => absurd hk (Nat.not_lt_zero _), ?_⟩
  refine tri_loop hS (Cx.plain_ok _ _) (Nat.zero_le _) (fun m env H => ∃ (i n : Nat) (ys : List Int), i ≤ l.length ∧ m = l.length - i ∧ n = ys.length ∧ ys = (l.take i).foldl (fun out m => putR out m.1 (atR p m.2)) p ∧
      env = mkE 47 [(0, vM fl l), (1, vJ fp p), (5, .ref 0 1 0 n), (6, .int .i64 i)] ∧ H = [.arr 21 elJ ys]) l.length
    (.keep [0, 1, 5, 6]) (Nat.zero_le _) ⟨0, p.length, p, Nat.zero_le _, rfl, rfl, rfl, by subst hz; rw [show realz .add 0 p.length = p.length from Nat.zero_add _]; rfl, by subst hS; rfl⟩ ?_
  rintro m env H ⟨i, n, ys, hi, rfl, hn, hys, rfl, rfl⟩ hh
  refine T_of_W (tab := tabM) (D := [7]) (tr := tr25) tabM_ok (Cx.plain_ok _ _) (by kernel_rfl) hh (fun z' S' Q' hz' hS' hQ => ?_)
  cbv
  rcases h1 : z' .lt (Int.ofNat i) (S' .len (Int × Int) l) with _ | _
  · have e : l.take i = l := by
      rw [hz', hS'] at h1
      have : ¬ (i : Int) < (l.length : Int) := of_decide_eq_false h1
      exact List.take_of_length_le (by omega)
    rw [e] at hys
    cbv
    apply hQ
    cbv
    exact hR _ _ _ _ (Wk.refl _ _) ⟨n, ys, hys, hn, rfl, rfl⟩
  · have hlt : i < l.length := by
      rw [hz', hS'] at h1
      have : (i : Int) < (l.length : Int) := of_decide_eq_true h1
      omega
    have hst := fold_take (fun out (m : Move) => putR out m.1 (atR p m.2)) p l (0, 0) hlt
    have einc : z' .ar .add .i64 (Int.ofNat i) 1 = Int.ofNat (i + 1) := by rw [hz']; exact rz_inc i (by omega)
    have eat : S' .at_ (Int × Int) (0, 0) l (z' .nat (Int.ofNat i)) = l.getD i (0, 0) := by rw [hS', hz']; rfl
    have hidx : S' .idx (Int × Int) l (Int.ofNat i) := by rw [hS']; simp [reals]; omega
    cbv
    refine ⟨hidx, ?_⟩
    rw [eat]
    generalize l.getD i (0, 0) = mv at hst eat ⊢
    obtain ⟨to, frm⟩ := mv
    rw [← hys] at hst
    have hskip : ∀ env', putR ys to (atR p frm) = ys → keepE [0, 1, 5, 6] env' = mkE 47 [(0, vM fl l), (1, vJ fp p), (5, .ref 0 1 0 n), (6, .int .i64 (Int.ofNat (i + 1)))] → Q' .norm env' [.arr 21 elJ ys] := fun env' h he => by
      apply hQ
      exact ⟨_, _, _, by omega, .keep [0, 1, 5, 6], i + 1, n, ys, hlt, rfl, hn, by rw [hst]; exact h.symm, he, rfl⟩
    cbv
    rcases h2 : z' .le 0 to with _ | _
    · have h2' : ¬ 0 ≤ to := by rw [hz'] at h2; exact of_decide_eq_false h2
      cbv
      rw [einc]
      exact hskip _ (by rw [putR, if_neg (fun h => h2' h.1)]) rfl
    · have h2' : 0 ≤ to := by rw [hz'] at h2; exact of_decide_eq_true h2
      cbv
      refine ⟨hidx, ?_⟩
      rw [eat]
      cbv
      rcases h3 : z' .lt to (Int.ofNat n) with _ | _
      · have h3' : ¬ to < (ys.length : Int) := by rw [← hn]; rw [hz'] at h3; exact of_decide_eq_false h3
        cbv
        rw [einc]
        exact hskip _ (by rw [putR, if_neg (fun h => h3' h.2)]) rfl
      · have h3' : to < (ys.length : Int) := by rw [← hn]; rw [hz'] at h3; exact of_decide_eq_true h3
        have hixn : z' .ixn n to := by rw [hz', hn]; exact ⟨h2', h3'⟩
        have eix : z' .add 0 (z' .nat to) = to.toNat := by rw [hz']; exact Nat.zero_add _
        have hset : ∀ r, S' .set elJ.α ys to.toNat r = ys.set to.toNat r := fun r => by rw [hS']; rfl
        have hput : ∀ r, r = atR p frm → ys.set to.toNat r = putR ys to (atR p frm) := fun r hr => by rw [hr, putR, if_pos ⟨h2', h3'⟩]
        have fin : ∀ env' r, r = atR p frm → keepE [0, 1, 5, 6] env' = mkE 47 [(0, vM fl l), (1, vJ fp p), (5, .ref 0 1 0 n), (6, .int .i64 (Int.ofNat (i + 1)))] → Q' .norm env' [.arr 21 elJ (S' .set elJ.α ys to.toNat r)] := fun env' r h he => by
          apply hQ
          exact ⟨_, _, _, by omega, .keep [0, 1, 5, 6], i + 1, n, ys.set to.toNat r, hlt, rfl, by rw [List.length_set, hn], by rw [hst]; exact hput r h, he, congrArg (fun a => [Blk.arr 21 elJ a]) (hset r)⟩
        cbv
        refine ⟨by rw [hS']; exact ⟨rfl, by kernel_rfl⟩, hidx, hidx, ?_⟩
        rw [eat]
        cbv
        repeat' first
          | exact trivial
          | exact hixn
          | refine And.intro ?_ ?_
          | (refine use_ct [] hS' (Cx.plain_ok _ _) rfl (fun yl => at47_ct yl fp p frm) (may_none []) ?_; rintro o h' ⟨r, hr, rfl, rfl⟩; cbv)
          | (rw [eix, einc]; exact fin _ r hr rfl)
end Go.Ab
