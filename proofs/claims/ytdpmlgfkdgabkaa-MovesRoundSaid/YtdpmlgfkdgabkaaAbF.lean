/- Contracts of the program's functions over an abstract state, and what they rest on: part AbF. No condition. -/
import Derived.Test.YtdpmlgfkdgabkaaAbE
set_option linter.unusedVariables false
set_option linter.unusedSimpArgs false

/- The reference: wrong. -/
namespace Go.Ab
open Go.Proofs

def tr49 : Nat → DT := fun _ => (.take 0 (.take 1 (.take 2 (.take 3 (.take 5 (.take 6 (.take 7 (.take 8 (.alt 4 (.alt 9 (.take 10 .done) .stop) (.alt 9 (.alt 4 (.take 10 .done) .stop) .stop))))))))))

def badR (m : Move) : Bool := !placeR m.1 || !placeR m.2
def dupAt (l : List Move) (i : Nat) : Bool := (l.take i).any fun m => (l.getD i (0, 0)).1 == m.1
def dupTo (l : List Move) (n : Nat) : Bool := (List.range n).any fun i => dupAt l i
def hitR (p : Int) (m : Move) : Bool := m.1 == p || m.2 == p

def wrongR (l : List Move) (sc sp : Int) : Int :=
  if l.any badR then 41
  else if dupTo l l.length then 12
  else if 15 < sc then 31
  else if 0 ≤ sc ∧ l.any (hitR sc) = true then 31
  else if 16382 < sp then 43
  else if 0 ≤ sp ∧ l.any (fun m => hitR (16 + sp) m || hitR (17 + sp) m) = true then 43
  else 0

section
variable {kv sp : Int} {j : Nat}
theorem om1 (h : kv = 16 + sp + j) (h' : ¬ kv ≤ 17 + sp) : 2 ≤ j := by omega
theorem om2 (h : kv = 16 + sp + j) (h' : kv ≤ 17 + sp) : j ≤ 1 := by omega
theorem om3 (h : kv = 16 + sp + j) (e : j = 0) : kv = 16 + sp := by omega
theorem om4 (h : kv = 16 + sp + j) (e : j = 1) : kv = 17 + sp := by omega
theorem om5 (b : j ≤ 1) : j = 0 ∨ j = 1 := by omega
theorem om6 (h : kv = 16 + sp + j) : kv + 1 = 16 + sp + ((j + 1 : Nat) : Int) := by omega
theorem om7 (b : j ≤ 1) : 2 - (j + 1) < 2 - j := by omega
theorem om8 (b : j ≤ 1) : j + 1 ≤ 2 := by omega
end

theorem wrong_ct (yl : Nat) (fl : Bool) (l : List Move) (sc sp : Int) (hl : l.length ≤ 1000) (h4 : -9223372036854775808 ≤ sp) :
    CT Try.prog (Cx.plain yl) noAr 49 [vM fl l, .int .i64 sc, .int .i64 sp] [] (fun o H => o = .ret (.int .i64 (wrongR l sc sp)) ∧ H = []) := by
  refine CT_of_W (tab := tabM) (D := []) (tr := tr49) Try.func49 (by kernel_rfl) rfl tabM_ok (Cx.plain_ok _ _) (by kernel_rfl) (fun z S R hz hS hR => ?_)
  have hR' : ∀ e : Int, wrongR l sc sp = e → R [.int .i64 e] [] := fun e he => by
    subst he
    exact hR _ _ _ _ (Wk.refl _ _) ⟨rfl, rfl⟩
  cbv
  refine tri_loop hS (Cx.plain_ok _ _) (Nat.le_refl _) (fun m env H => ∃ i : Nat, i ≤ l.length ∧ m = l.length - i ∧ (l.take i).any badR = false ∧
      env = mkE 125 [(0, vM fl l), (1, .int .i64 sc), (2, .int .i64 sp), (7, .int .i64 i)] ∧ H = []) l.length
    (.keep [0, 1, 2, 7]) (Nat.zero_le _) ⟨0, Nat.zero_le _, rfl, rfl, rfl, rfl⟩ ?_
  rintro m env H ⟨i, hi, rfl, hbad, rfl, rfl⟩ hh
  refine T_of_W (tab := tabM) (D := []) (tr := tr49) tabM_ok (Cx.plain_ok _ _) (by kernel_rfl) hh (fun z' S' Q' hz' hS' hQ => ?_)
  cbv
  rcases h5 : z' .lt (Int.ofNat i) (S' .len (Int × Int) l) with _ | _
  · cbv
    apply hQ
    clear hQ
    have e : l.take i = l := by
      rw [hz', hS'] at h5
      have h5' : ¬ (i : Int) < (l.length : Int) := of_decide_eq_false h5
      exact List.take_of_length_le (by omega)
    rw [e] at hbad
    cbv
    -- the second loop
    refine tri_loop hS (Cx.plain_ok _ _) (Nat.zero_le _) (fun m env H => ∃ i : Nat, i ≤ l.length ∧ m = l.length - i ∧ dupTo l i = false ∧
        env = mkE 125 [(0, vM fl l), (1, .int .i64 sc), (2, .int .i64 sp), (10, .int .i64 i)] ∧ H = []) l.length
      (.keep [0, 1, 2, 10]) (Nat.zero_le _) ⟨0, Nat.zero_le _, rfl, rfl, rfl, rfl⟩ ?_
    rintro m env H ⟨i2, hi2, rfl, hdup, rfl, rfl⟩ hh2
    refine T_of_W (tab := tabM) (D := []) (tr := tr49) tabM_ok (Cx.plain_ok _ _) (by kernel_rfl) hh2 (fun z2 S2 Q2 hz2 hS2 hQ2 => ?_)
    cbv
    rcases h6 : z2 .lt (Int.ofNat i2) (S2 .len (Int × Int) l) with _ | _
    · cbv
      apply hQ2
      clear hQ2
      have e2 : i2 = l.length := by
        rw [hz2, hS2] at h6
        have h6' : ¬ (i2 : Int) < (l.length : Int) := of_decide_eq_false h6
        omega
      rw [e2] at hdup
      cbv
      rcases h7 : z .lt 15 sc with _ | _
      · have h7' : ¬ (15 : Int) < sc := by subst hz; exact of_decide_eq_false h7
        cbv
        refine tri_loop hS (Cx.plain_ok _ _) (Nat.zero_le _) (fun m env H => ∃ i : Nat, i ≤ l.length ∧ m = l.length - i ∧ (0 ≤ sc → (l.take i).any (hitR sc) = false) ∧
            env = mkE 125 [(0, vM fl l), (1, .int .i64 sc), (2, .int .i64 sp), (12, .int .i64 i)] ∧ H = []) l.length
          (.keep [0, 1, 2, 12]) (Nat.zero_le _) ⟨0, Nat.zero_le _, rfl, fun _ => rfl, rfl, rfl⟩ ?_
        rintro m env H ⟨i3, hi3, rfl, hno, rfl, rfl⟩ hh3
        refine T_of_W (tab := tabM) (D := []) (tr := tr49) tabM_ok (Cx.plain_ok _ _) (by kernel_rfl) hh3 (fun z3 S3 Q3 hz3 hS3 hQ3 => ?_)
        cbv
        rcases h8 : z3 .lt (Int.ofNat i3) (S3 .len (Int × Int) l) with _ | _
        · cbv
          apply hQ3
          clear hQ3
          have e3 : i3 = l.length := by
            rw [hz3, hS3] at h8
            have h8' : ¬ (i3 : Int) < (l.length : Int) := of_decide_eq_false h8
            omega
          rw [e3, List.take_length] at hno
          cbv
          rcases h9 : z .lt 16382 sp with _ | _
          · have h9' : ¬ (16382 : Int) < sp := by subst hz; exact of_decide_eq_false h9
            have h16 : z .ar .add .i64 16 sp = 16 + sp := by rw [hz]; exact rz_add (by omega) (by omega)
            have hx : ¬ (0 ≤ sc ∧ l.any (hitR sc) = true) := fun ⟨a, b⟩ => by rw [hno a] at b; cases b
            have hlast : wrongR l sc sp = if 0 ≤ sp ∧ l.any (fun m => hitR (16 + sp) m || hitR (17 + sp) m) = true then 43 else 0 := by
              rw [wrongR, hbad, hdup, if_neg (by simp), if_neg (by simp), if_neg h7', if_neg hx, if_neg h9']
            cbv
            refine tri_loop hS (Cx.plain_ok _ _) (Nat.zero_le _) (fun m env H => ∃ i : Nat, i ≤ l.length ∧ m = l.length - i ∧ (0 ≤ sp → (l.take i).any (fun m => hitR (16 + sp) m || hitR (17 + sp) m) = false) ∧
                env = mkE 125 [(0, vM fl l), (1, .int .i64 sc), (2, .int .i64 sp), (13, .int .i64 i)] ∧ H = []) l.length
              (.keep [0, 1, 2, 13]) (Nat.zero_le _) ⟨0, Nat.zero_le _, rfl, fun _ => rfl, rfl, rfl⟩ ?_
            rintro m env H ⟨i4, hi4, rfl, hno4, rfl, rfl⟩ hh4
            refine T_of_W (tab := tabM) (D := []) (tr := tr49) tabM_ok (Cx.plain_ok _ _) (by kernel_rfl) hh4 (fun z4 S4 Q4 hz4 hS4 hQ4 => ?_)
            cbv
            rcases h10 : z4 .lt (Int.ofNat i4) (S4 .len (Int × Int) l) with _ | _
            · cbv
              apply hQ4
              have e4 : i4 = l.length := by
                rw [hz4, hS4] at h10
                have h10' : ¬ (i4 : Int) < (l.length : Int) := of_decide_eq_false h10
                omega
              rw [e4, List.take_length] at hno4
              cbv
              exact hR' 0 (by
                rw [hlast, if_neg (fun ⟨a, b⟩ => by rw [hno4 a] at b; cases b)])
            · have hlt4 : i4 < l.length := by
                rw [hz4, hS4] at h10
                have h10' : (i4 : Int) < (l.length : Int) := of_decide_eq_true h10
                omega
              have hany := any_take (fun m => hitR (16 + sp) m || hitR (17 + sp) m) l (0, 0) hlt4
              have h16' : z4 .ar .add .i64 16 sp = 16 + sp := by rw [hz4]; exact rz_add (by omega) (by omega)
              have hit : 0 ≤ sp → (hitR (16 + sp) (l.getD i4 (0, 0)) || hitR (17 + sp) (l.getD i4 (0, 0))) = true → R [.int .i64 43] [] := fun a b => hR' 43 (by
                have hx : l.any (fun m => hitR (16 + sp) m || hitR (17 + sp) m) = true := by
                  rw [List.any_eq_true]
                  exact ⟨l.getD i4 (0, 0), by rw [List.getD_eq_getElem?_getD, List.getElem?_eq_getElem hlt4]; exact List.getElem_mem hlt4, b⟩
                rw [hlast, if_pos ⟨a, hx⟩])
              cbv
              rw [h16']
              refine tri_loop hS4 (Cx.plain_ok _ _) (Nat.zero_le _) (fun m env H => ∃ (j : Nat) (kv : Int), j ≤ 2 ∧ kv = 16 + sp + j ∧ m = 2 - j ∧ (0 ≤ sp → (1 ≤ j → hitR (16 + sp) (l.getD i4 (0, 0)) = false) ∧ (2 ≤ j → hitR (17 + sp) (l.getD i4 (0, 0)) = false)) ∧
                  env = mkE 125 [(0, vM fl l), (1, .int .i64 sc), (2, .int .i64 sp), (13, .int .i64 i4), (14, .int .i64 kv)] ∧ H = []) 2
                (.keep [0, 1, 2, 13, 14]) (Nat.zero_le _) ⟨0, 16 + sp, by omega, by simp, rfl, fun _ => ⟨fun h => by omega, fun h => by omega⟩, rfl, rfl⟩ ?_
              rintro m env H ⟨j, kv, hj, hkv, rfl, hnj, rfl, rfl⟩ hh5
              refine T_of_W (tab := tabM) (D := []) (tr := tr49) tabM_ok (Cx.plain_ok _ _) (by kernel_rfl) hh5 (fun z5 S5 Q5 hz5 hS5 hQ5 => ?_)
              have h17 : z5 .ar .add .i64 17 sp = 17 + sp := by rw [hz5]; exact rz_add (by omega) (by omega)
              have hk1 : z5 .ar .add .i64 kv 1 = kv + 1 := by rw [hz5]; exact rz_add (by omega) (by omega)
              have einc : z4 .ar .add .i64 (Int.ofNat i4) 1 = Int.ofNat (i4 + 1) := by rw [hz4]; exact rz_inc i4 (by omega)
              have leave : ∀ env', (0 ≤ sp → 2 ≤ j) → keepE [0, 1, 2, 13] env' = mkE 125 [(0, vM fl l), (1, .int .i64 sc), (2, .int .i64 sp), (13, .int .i64 (Int.ofNat (i4 + 1)))] → Q4 .norm env' [] := fun env' h he => by
                apply hQ4
                refine ⟨_, _, _, by omega, .keep [0, 1, 2, 13], i4 + 1, hlt4, rfl, fun a => ?_, he, rfl⟩
                rw [hany, hno4 a, (hnj a).1 (by have := h a; omega), (hnj a).2 (h a)]; rfl
              have hitk : 0 ≤ sp → j ≤ 1 → hitR kv (l.getD i4 (0, 0)) = true → R [.int .i64 43] [] := fun a b h => hit a (by
                have hj01 : j = 0 ∨ j = 1 := om5 b
                rcases hj01 with e | e
                · have e' : kv = 16 + sp := om3 hkv e
                  rw [e'] at h; rw [h]; rfl
                · have e' : kv = 17 + sp := om4 hkv e
                  rw [e'] at h; rw [h]; simp)
              have nohit : j ≤ 1 → hitR kv (l.getD i4 (0, 0)) = false → (0 ≤ sp → (1 ≤ j + 1 → hitR (16 + sp) (l.getD i4 (0, 0)) = false) ∧ (2 ≤ j + 1 → hitR (17 + sp) (l.getD i4 (0, 0)) = false)) := fun b h a => by
                have hj01 : j = 0 ∨ j = 1 := om5 b
                rcases hj01 with e | e
                · have e' : kv = 16 + sp := om3 hkv e
                  exact ⟨fun _ => e' ▸ h, fun h2 => by omega⟩
                · have e' : kv = 17 + sp := om4 hkv e
                  exact ⟨fun _ => (hnj a).1 (by omega), fun _ => e' ▸ h⟩
              cbv
              rw [h17]
              rcases h11 : z5 .le kv (17 + sp) with _ | _
              · have h11' : ¬ kv ≤ 17 + sp := by rw [hz5] at h11; exact of_decide_eq_false h11
                cbv
                apply hQ5
                cbv
                rw [einc]
                have h2j : 2 ≤ j := om1 hkv h11'
                exact leave _ (fun _ => h2j) rfl
              · have h11' : kv ≤ 17 + sp := by rw [hz5] at h11; exact of_decide_eq_true h11
                cbv
                rcases h12 : z5 .le 0 sp with _ | _
                · have h12' : ¬ 0 ≤ sp := by rw [hz5] at h12; exact of_decide_eq_false h12
                  cbv
                  apply hQ5
                  cbv
                  rw [einc]
                  exact leave _ (fun a => absurd a h12') rfl
                · have h12' : 0 ≤ sp := by rw [hz5] at h12; exact of_decide_eq_true h12
                  cbv
                  have hj1 : j ≤ 1 := om2 hkv h11'
                  refine ⟨by rw [hS5]; simp [reals]; omega, ?_⟩
                  rcases h13 : z5 .eq (S5 .at_ (Int × Int) (0, 0) l (z5 .nat (Int.ofNat i4))).1 kv with _ | _
                  · have h13' : ((l.getD i4 (0, 0)).1 == kv) = false := by rw [hz5, hS5] at h13; exact h13
                    cbv
                    refine ⟨by rw [hS5]; simp [reals]; omega, ?_⟩
                    rcases h14 : z5 .eq (S5 .at_ (Int × Int) (0, 0) l (z5 .nat (Int.ofNat i4))).2 kv with _ | _
                    · have h14' : ((l.getD i4 (0, 0)).2 == kv) = false := by rw [hz5, hS5] at h14; exact h14
                      cbv
                      apply hQ5
                      rw [hk1]
                      exact ⟨_, _, _, om7 hj1, .keep [0, 1, 2, 13, 14], j + 1, kv + 1, om8 hj1, om6 hkv, rfl, nohit hj1 (by rw [hitR, h13', h14']; rfl), rfl, rfl⟩
                    · have h14' : ((l.getD i4 (0, 0)).2 == kv) = true := by rw [hz5, hS5] at h14; exact h14
                      cbv
                      apply hQ5
                      cbv
                      apply hQ4
                      cbv
                      exact hitk h12' hj1 (by rw [hitR, h14']; simp)
                  · have h13' : ((l.getD i4 (0, 0)).1 == kv) = true := by rw [hz5, hS5] at h13; exact h13
                    cbv
                    apply hQ5
                    cbv
                    apply hQ4
                    cbv
                    exact hitk h12' hj1 (by rw [hitR, h13']; simp)
          · have h9' : (16382 : Int) < sp := by subst hz; exact of_decide_eq_true h9
            cbv
            refine hR' 43 ?_
            have hx : ¬ (0 ≤ sc ∧ l.any (hitR sc) = true) := fun ⟨a, b⟩ => by rw [hno a] at b; cases b
            rw [wrongR, hbad, hdup, if_neg (by simp), if_neg (by simp), if_neg h7', if_neg hx, if_pos h9']
        · have hlt3 : i3 < l.length := by
            rw [hz3, hS3] at h8
            have h8' : (i3 : Int) < (l.length : Int) := of_decide_eq_true h8
            omega
          have hany := any_take (hitR sc) l (0, 0) hlt3
          have hit : 0 ≤ sc → hitR sc (l.getD i3 (0, 0)) = true → R [.int .i64 31] [] := fun a b => hR' 31 (by
            have hx : l.any (hitR sc) = true := by
              rw [List.any_eq_true]
              exact ⟨l.getD i3 (0, 0), by rw [List.getD_eq_getElem?_getD, List.getElem?_eq_getElem hlt3]; exact List.getElem_mem hlt3, b⟩
            rw [wrongR, hbad, hdup, if_neg (by simp), if_neg (by simp), if_neg h7', if_pos ⟨a, hx⟩])
          cbv
          rcases h9 : z3 .le 0 sc with _ | _
          · have h9' : ¬ 0 ≤ sc := by subst hz3; exact of_decide_eq_false h9
            cbv
            apply hQ3
            subst hz3
            refine ⟨_, _, _, by omega, .keep [0, 1, 2, 12], i3 + 1, hlt3, rfl, fun h => absurd h h9', ?_, rfl⟩
            rw [rz_inc i3 (by omega)]; rfl
          · have h9' : 0 ≤ sc := by subst hz3; exact of_decide_eq_true h9
            cbv
            refine ⟨by rw [hS3]; simp [reals]; omega, ?_⟩
            rcases h10 : z3 .eq (S3 .at_ (Int × Int) (0, 0) l (z3 .nat (Int.ofNat i3))).1 sc with _ | _
            · have h10' : ((l.getD i3 (0, 0)).1 == sc) = false := by rw [hz3, hS3] at h10; exact h10
              cbv
              refine ⟨by rw [hS3]; simp [reals]; omega, ?_⟩
              rcases h11 : z3 .eq (S3 .at_ (Int × Int) (0, 0) l (z3 .nat (Int.ofNat i3))).2 sc with _ | _
              · have h11' : ((l.getD i3 (0, 0)).2 == sc) = false := by rw [hz3, hS3] at h11; exact h11
                cbv
                apply hQ3
                subst hz3
                refine ⟨_, _, _, by omega, .keep [0, 1, 2, 12], i3 + 1, hlt3, rfl, fun h => ?_, ?_, rfl⟩
                · rw [hany, hno h, hitR, h10', h11']; rfl
                · rw [rz_inc i3 (by omega)]; rfl
              · have h11' : ((l.getD i3 (0, 0)).2 == sc) = true := by rw [hz3, hS3] at h11; exact h11
                cbv
                apply hQ3
                cbv
                exact hit h9' (by rw [hitR, h11']; simp)
            · have h10' : ((l.getD i3 (0, 0)).1 == sc) = true := by rw [hz3, hS3] at h10; exact h10
              cbv
              apply hQ3
              cbv
              exact hit h9' (by rw [hitR, h10']; simp)
      · cbv
        subst hz
        have h7' : (15 : Int) < sc := of_decide_eq_true h7
        exact hR' 31 (by simp [wrongR, hbad, hdup, h7'])
    · have hlt2 : i2 < l.length := by
        rw [hz2, hS2] at h6
        have h6' : (i2 : Int) < (l.length : Int) := of_decide_eq_true h6
        omega
      have hnext : dupTo l (i2 + 1) = (dupTo l i2 || dupAt l i2) := by
        simp [dupTo, List.range_succ, List.any_append]
      cbv
      refine tri_loop hS2 (Cx.plain_ok _ _) (Nat.zero_le _) (fun m env H => ∃ k : Nat, k ≤ i2 ∧ m = i2 - k ∧ (l.take k).any (fun m => (l.getD i2 (0, 0)).1 == m.1) = false ∧
          env = mkE 125 [(0, vM fl l), (1, .int .i64 sc), (2, .int .i64 sp), (10, .int .i64 i2), (11, .int .i64 k)] ∧ H = []) i2
        (.keep [0, 1, 2, 10, 11]) (Nat.zero_le _) ⟨0, Nat.zero_le _, rfl, rfl, rfl, rfl⟩ ?_
      rintro m env H ⟨k, hk, rfl, hno, rfl, rfl⟩ hh3
      refine T_of_W (tab := tabM) (D := []) (tr := tr49) tabM_ok (Cx.plain_ok _ _) (by kernel_rfl) hh3 (fun z3 S3 Q3 hz3 hS3 hQ3 => ?_)
      cbv
      rcases h7 : z3 .lt (Int.ofNat k) (Int.ofNat i2) with _ | _
      · cbv
        apply hQ3
        cbv
        apply hQ2
        have ek : k = i2 := by
          rw [hz3] at h7
          have h7' : ¬ (k : Int) < (i2 : Int) := of_decide_eq_false h7
          omega
        subst hz2
        refine ⟨_, _, _, by omega, .keep [0, 1, 2, 10], i2 + 1, hlt2, rfl, ?_, ?_, rfl⟩
        · rw [ek] at hno
          rw [hnext, hdup, dupAt, hno]; rfl
        · rw [rz_inc i2 (by omega)]; rfl
      · have hkl : k < i2 := by
          rw [hz3] at h7
          have h7' : (k : Int) < (i2 : Int) := of_decide_eq_true h7
          omega
        have hany := any_take (fun m : Move => (l.getD i2 (0, 0)).1 == m.1) l (0, 0) (i := k) (by omega)
        cbv
        refine ⟨by rw [hS3]; exact ⟨rfl, by kernel_rfl⟩, by rw [hS3]; simp [reals]; omega, by rw [hS3]; simp [reals]; omega, ?_⟩
        rcases h8 : z3 .eq (S3 .at_ (Int × Int) (0, 0) l (z3 .nat (Int.ofNat i2))).1 (S3 .at_ (Int × Int) (0, 0) l (z3 .nat (Int.ofNat k))).1 with _ | _
        · have h8' : ((l.getD i2 (0, 0)).1 == (l.getD k (0, 0)).1) = false := by rw [hz3, hS3] at h8; exact h8
          cbv
          refine ⟨⟨?_, trivial⟩, ⟨?_, trivial⟩, trivial⟩ <;>
          · apply hQ3
            subst hz3
            refine ⟨_, _, _, by omega, .keep [0, 1, 2, 10, 11], k + 1, hkl, rfl, ?_, ?_, rfl⟩
            · rw [hany, hno, h8']; rfl
            · rw [rz_inc k (by omega)]; rfl
        · have h8' : ((l.getD i2 (0, 0)).1 == (l.getD k (0, 0)).1) = true := by rw [hz3, hS3] at h8; exact h8
          have hd : dupTo l l.length = true := by
            rw [dupTo, List.any_eq_true]
            refine ⟨i2, List.mem_range.2 hlt2, ?_⟩
            rw [dupAt, List.any_eq_true]
            refine ⟨l.getD k (0, 0), ?_, h8'⟩
            rw [List.getD_eq_getElem?_getD, List.getElem?_eq_getElem (by omega), Option.getD_some]
            have : (l.take i2)[k]? = some l[k] := by rw [List.getElem?_take, if_pos hkl, List.getElem?_eq_getElem]
            exact List.mem_of_getElem? this
          cbv
          refine ⟨⟨?_, trivial⟩, ⟨?_, trivial⟩, trivial⟩ <;>
          · apply hQ3
            cbv
            apply hQ2
            cbv
            exact hR' 12 (by simp [wrongR, hbad, hd])
  · have hlt : i < l.length := by
      rw [hz', hS'] at h5
      have h5' : (i : Int) < (l.length : Int) := of_decide_eq_true h5
      omega
    have hany := any_take badR l (0, 0) hlt
    cbv
    refine ⟨by rw [hS']; simp [reals]; omega, ?_⟩
    refine use_ct [] hS' (Cx.plain_ok _ _) rfl (fun yl => Place_ct yl _) (may_none []) ?_
    rintro o h' ⟨rfl, rfl⟩
    generalize hb1 : placeR _ = b1
    cbv
    refine ⟨by rw [hS']; simp [reals]; omega, ?_⟩
    refine use_ct [] hS' (Cx.plain_ok _ _) rfl (fun yl => Place_ct yl _) (may_none []) ?_
    rintro o h' ⟨rfl, rfl⟩
    generalize hb2 : placeR _ = b2
    have hbm : badR (l.getD i (0, 0)) = (!b1 || !b2) := by
      rw [← hb1, ← hb2, hS', hz']; rfl
    have leaf : (!b1 || !b2) = true → R [.int .i64 41] [] := fun h => hR' 41 (by
      have : l.any badR = true := by
        rw [List.any_eq_true]
        exact ⟨l.getD i (0, 0), by rw [List.getD_eq_getElem?_getD, List.getElem?_eq_getElem hlt]; exact List.getElem_mem hlt, by rw [hbm, h]⟩
      simp [wrongR, this])
    cases b1 with
    | false =>
      cbv
      apply hQ
      cbv
      exact leaf rfl
    | true =>
      cases b2 with
      | false =>
        cbv
        apply hQ
        cbv
        exact leaf rfl
      | true =>
        cbv
        apply hQ
        subst hz'
        refine ⟨_, _, _, by omega, .keep [0, 1, 2, 7], i + 1, hlt, rfl, ?_, ?_, rfl⟩
        · rw [hany, hbad, hbm]; rfl
        · rw [rz_inc i (by omega)]; rfl
end Go.Ab

/- Plain facts of the reference's loop. -/
namespace Go.Ab

def minTo (l : List Move) : Int := l.foldl (fun b m => min b m.1) (l.getD 0 (0, 0)).1

def dropAll (l : List Move) (c : List Int) : List Move := c.foldl (fun l p => l.filter fun m => m.1 != p) l

theorem foldl_mem (l0 : List Move) : ∀ (l : List Move) (b : Int), l.foldl (freeStep l0) b = b ∨ ∃ m ∈ l, m.1 = l.foldl (freeStep l0) b
  | [], b => .inl rfl
  | x :: l, b => by
    simp only [List.foldl_cons]
    rcases foldl_mem l0 l (freeStep l0 b x) with h | ⟨m, hm, h⟩
    · rw [h]
      unfold freeStep
      split
      · exact .inr ⟨x, by simp, rfl⟩
      · exact .inl rfl
    · exact .inr ⟨m, by simp [hm], h⟩

theorem freeR_mem {l : List Move} (h : 0 ≤ freeR l) : ∃ m ∈ l, m.1 = freeR l := by
  rcases foldl_mem l l (-1) with e | h'
  · rw [freeR, e] at h; omega
  · exact h'

theorem src_mem (p : Int) : ∀ (l : List Move) (b : Int), l.foldl (fun o m => if m.1 == p then m.2 else o) b = b ∨ ∃ m ∈ l, m.2 = l.foldl (fun o m => if m.1 == p then m.2 else o) b
  | [], b => .inl rfl
  | x :: l, b => by
    simp only [List.foldl_cons]
    rcases src_mem p l (if x.1 == p then x.2 else b) with h | ⟨m, hm, h⟩
    · rw [h]
      split
      · exact .inr ⟨x, by simp, rfl⟩
      · exact .inl rfl
    · exact .inr ⟨m, by simp [hm], h⟩

theorem sourceR_mem (l : List Move) (p : Int) : sourceR l p = -1 ∨ ∃ m ∈ l, m.2 = sourceR l p := src_mem p l (-1)

theorem min_mem : ∀ (l : List Move) (b : Int), l.foldl (fun b m => min b m.1) b = b ∨ ∃ m ∈ l, m.1 = l.foldl (fun b m => min b m.1) b
  | [], b => .inl rfl
  | x :: l, b => by
    simp only [List.foldl_cons]
    rcases min_mem l (min b x.1) with h | ⟨m, hm, h⟩
    · rw [h]
      rcases Int.le_total b x.1 with h' | h'
      · left; omega
      · right; exact ⟨x, by simp, by omega⟩
    · exact .inr ⟨m, by simp [hm], h⟩

theorem minTo_mem {l : List Move} (h : l ≠ []) : ∃ m ∈ l, m.1 = minTo l := by
  rcases min_mem l (l.getD 0 (0, 0)).1 with e | h'
  · rw [minTo, e]
    cases l with
    | nil => exact (h rfl).elim
    | cons x l => exact ⟨x, by simp, rfl⟩
  · exact h'

theorem filter_lt {l : List Move} {x : Int} (h : ∃ m ∈ l, m.1 = x) : (l.filter fun m => m.1 != x).length < l.length := by
  obtain ⟨m, hm, rfl⟩ := h
  have := List.length_filter_lt_length_iff_exists (p := fun k : Move => k.1 != m.1) (l := l)
  exact this.2 ⟨m, hm, by simp⟩

theorem dropAll_le : ∀ (c : List Int) (l : List Move), (dropAll l c).length ≤ l.length
  | [], _ => Nat.le_refl _
  | p :: c, l => Nat.le_trans (dropAll_le c (l.filter fun m => m.1 != p)) (List.length_filter_le _ _)

theorem dropAll_lt {l : List Move} {x : Int} {c : List Int} (h : ∃ m ∈ l, m.1 = x) : (dropAll l (x :: c)).length < l.length :=
  Nat.lt_of_le_of_lt (dropAll_le c (l.filter fun m => m.1 != x)) (filter_lt h)

theorem dropAll_sub : ∀ (c : List Int) (l : List Move), ∀ m ∈ dropAll l c, m ∈ l
  | [], _, m, h => h
  | p :: c, l, m, h => (List.mem_filter.1 (dropAll_sub c (l.filter fun m => m.1 != p) m h)).1

theorem circGo_head (l : List Move) (x : Int) : ∀ (n : Nat) (out : List Int) (p : Int), ∃ r, circGo l x n out p = out ++ r
  | 0, out, p => ⟨[], by simp [circGo]⟩
  | n + 1, out, p => by
    simp only [circGo]
    split
    · obtain ⟨r, hr⟩ := circGo_head l x n (out ++ [p]) (sourceR l p)
      exact ⟨p :: r, by rw [hr]; simp⟩
    · exact ⟨[], by simp⟩

theorem circle_head (l : List Move) (x : Int) : ∃ r, circleR l x = x :: r := by
  obtain ⟨r, hr⟩ := circGo_head l x l.length [x] (sourceR l x)
  exact ⟨r, by rw [circleR, hr]; rfl⟩

theorem circGo_len (l : List Move) (x : Int) : ∀ (n : Nat) (out : List Int) (p : Int), (circGo l x n out p).length ≤ out.length + n
  | 0, out, p => by simp [circGo]
  | n + 1, out, p => by
    simp only [circGo]
    split
    · have := circGo_len l x n (out ++ [p]) (sourceR l p)
      simp at this; omega
    · omega

theorem circle_len (l : List Move) (x : Int) : (circleR l x).length ≤ l.length + 1 := by
  have := circGo_len l x l.length [x] (sourceR l x)
  simp [circleR] at this ⊢; omega
end Go.Ab

/- The reference's loop, plainly. -/
namespace Go.Ab

def loopR (sc sp : Int) : Nat → List Move → List Mac × Int → List Mac × Int
  | 0, _, s => s
  | f + 1, l, s =>
    if l.length = 0 ∨ s.2 ≠ 0 then s
    else if 0 ≤ freeR l then loopR sc sp f (l.filter fun m => m.1 != freeR l) (bringR sc sp s (freeR l) (sourceR l (freeR l)))
    else loopR sc sp f (dropAll l (circleR l (minTo l))) (roundR sc sp s (circleR l (minTo l)))

def realM (l : List Move) : List Move := l.filter fun m => m.1 != m.2

def orderR (l : List Move) (sc sp : Int) : List Mac × Int :=
  if wrongR l sc sp ≠ 0 then ([], wrongR l sc sp)
  else
    let s := loopR sc sp (realM l).length (realM l) ([], 0)
    if s.2 ≠ 0 then ([], s.2) else (s.1, 0)

theorem wrong_zero {l : List Move} {sc sp : Int} (h : wrongR l sc sp = 0) : l.any badR = false ∧ dupTo l l.length = false ∧ sc ≤ 15 ∧ (0 ≤ sc → l.any (hitR sc) = false) ∧ sp ≤ 16382 ∧ (0 ≤ sp → l.any (fun m => hitR (16 + sp) m || hitR (17 + sp) m) = false) := by
  unfold wrongR at h
  split at h
  · cases h
  split at h
  · cases h
  split at h
  · cases h
  split at h
  · cases h
  split at h
  · cases h
  split at h
  · cases h
  rename_i h1 h2 h3 h4 h5 h6
  refine ⟨by simpa using h1, by simpa using h2, by omega, fun a => ?_, by omega, fun a => ?_⟩
  · cases hb : l.any (hitR sc) with
    | false => rfl
    | true => exact (h4 ⟨a, hb⟩).elim
  · cases hb : l.any (fun m => hitR (16 + sp) m || hitR (17 + sp) m) with
    | false => rfl
    | true => exact (h6 ⟨a, hb⟩).elim

theorem step_free_lt {l : List Move} (h : 0 ≤ freeR l) : (l.filter fun m => m.1 != freeR l).length < l.length := filter_lt (freeR_mem h)

theorem step_circle_lt {l : List Move} (h : l.length ≠ 0) : (dropAll l (circleR l (minTo l))).length < l.length := by
  obtain ⟨r, hr⟩ := circle_head l (minTo l)
  rw [hr]
  exact dropAll_lt (minTo_mem (fun e => h (by rw [e]; rfl)))

theorem loopR_more (sc sp : Int) : ∀ (f g : Nat) (l : List Move) (s : List Mac × Int), l.length ≤ f → l.length ≤ g → loopR sc sp f l s = loopR sc sp g l s
  | 0, 0, _, _, _, _ => rfl
  | 0, g + 1, l, s, h, _ => by
    have : l.length = 0 := by omega
    simp [loopR, this]
  | f + 1, 0, l, s, _, h => by
    have : l.length = 0 := by omega
    simp [loopR, this]
  | f + 1, g + 1, l, s, hf, hg => by
    simp only [loopR]
    split
    · rfl
    · rename_i h0
      split
      · rename_i h1
        have := step_free_lt h1
        exact loopR_more sc sp f g _ _ (by omega) (by omega)
      · have := step_circle_lt (l := l) (fun e => h0 (.inl e))
        exact loopR_more sc sp f g _ _ (by omega) (by omega)

/-- One round of the loop, as long as there is something left. -/
theorem loopR_step {sc sp : Int} {l : List Move} {s : List Mac × Int} (h0 : l.length ≠ 0) (h1 : s.2 = 0) :
    loopR sc sp l.length l s = if 0 ≤ freeR l then loopR sc sp (l.filter fun m => m.1 != freeR l).length (l.filter fun m => m.1 != freeR l) (bringR sc sp s (freeR l) (sourceR l (freeR l)))
      else loopR sc sp (dropAll l (circleR l (minTo l))).length (dropAll l (circleR l (minTo l))) (roundR sc sp s (circleR l (minTo l))) := by
  obtain ⟨f, hf⟩ : ∃ f, l.length = f + 1 := ⟨l.length - 1, by omega⟩
  conv => lhs; rw [hf, loopR]
  rw [if_neg (by rintro (h | h); exact h0 h; exact h h1)]
  split
  · rename_i h2
    have := step_free_lt h2
    exact loopR_more sc sp _ _ _ _ (by omega) (Nat.le_refl _)
  · have := step_circle_lt h0
    exact loopR_more sc sp _ _ _ _ (by omega) (Nat.le_refl _)

theorem loopR_end {sc sp : Int} {l : List Move} {s : List Mac × Int} (h : l.length = 0 ∨ s.2 ≠ 0) : loopR sc sp l.length l s = s := by
  cases hl : l.length with
  | zero => rfl
  | succ f => rw [loopR, if_pos h]
theorem circGo_mem (l : List Move) (x : Int) : ∀ (n : Nat) (out : List Int) (p : Int), (p = -1 ∨ ∃ m ∈ l, m.2 = p) → (∀ q ∈ out, q = x ∨ ∃ m ∈ l, m.2 = q) → ∀ q ∈ circGo l x n out p, q = x ∨ ∃ m ∈ l, m.2 = q
  | 0, out, p, _, ho, q, hq => ho q hq
  | n + 1, out, p, hp, ho, q, hq => by
    simp only [circGo] at hq
    split at hq
    · rename_i hc
      refine circGo_mem l x n (out ++ [p]) _ (sourceR_mem l p) (fun r hr => ?_) q hq
      rcases List.mem_append.1 hr with h | h
      · exact ho r h
      · simp at h
        subst h
        rcases hp with h | h
        · subst h; simp at hc
        · exact .inr h
    · exact ho q hq

theorem circ_mem (l : List Move) (x : Int) : ∀ q ∈ circleR l x, q = x ∨ ∃ m ∈ l, m.2 = q :=
  circGo_mem l x _ _ _ (sourceR_mem l x) (fun q hq => .inl (by simpa using hq))

theorem pairs_fold_len (sc sp : Int) : ∀ (ps : List (Int × Int)) (s : List Mac × Int), (ps.foldl (fun s p => bringR sc sp s p.1 p.2) s).1.length ≤ s.1.length + 4 * ps.length
  | [], s => by simp
  | p :: ps, s => by
    simp only [List.foldl_cons, List.length_cons]
    have h1 := pairs_fold_len sc sp ps (bringR sc sp s p.1 p.2)
    have h2 := bringR_len sc sp s p.1 p.2
    omega

theorem roundR_len (sc sp : Int) (s : List Mac × Int) (c : List Int) : (roundR sc sp s c).1.length ≤ s.1.length + 4 * (c.length + 2) := by
  unfold roundR
  split
  · simp [pairs_len]; omega
  · split
    · simp
    · simp only
      generalize (if regsR c = true then sc else 16 + sp) = t
      have h1 := bringR_len sc sp s t (c.getD 0 0)
      have h2 := pairs_fold_len sc sp (pairs c) (bringR sc sp s t (c.getD 0 0))
      have h3 := bringR_len sc sp ((pairs c).foldl (fun s p => bringR sc sp s p.1 p.2) (bringR sc sp s t (c.getD 0 0))) (c.getD (c.length - 1) 0) t
      have := pairs_len c
      omega

theorem dropAll_take (l : List Move) (c : List Int) {i : Nat} (h : i < c.length) : dropAll l (c.take (i + 1)) = (dropAll l (c.take i)).filter fun m => m.1 != c.getD i 0 :=
  fold_take _ _ _ _ h
end Go.Ab
