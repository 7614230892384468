/- Contracts of the program's functions over an abstract state, and what they rest on: part AbX. No condition. -/
import Derived.Test.YtdpmlgfkdgabkaaAbW
set_option linter.unusedVariables false
set_option linter.unusedSimpArgs false

/- The program: Circles. -/
namespace Go.Ab
open Go.Proofs

/-- A circle of two places or more. -/
structure GoodC (c : List Int) : Prop where
  two : 2 ≤ c.length
  top : c.length ≤ 24
  nd : c.Nodup
  pl : ∀ y ∈ c, 0 ≤ y ∧ y < 24 ∧ y ≠ 15

theorem good_circ {l : List Move} (hok : OkM l) (hll : l.length ≤ 24) {x : Int} {n : Nat} (h1 : 1 ≤ n) (hgt : ∀ k ≤ n, 1 ≤ k → x < itS l x k) (hm : ∀ k ≤ n, (itS l x k, itS l x (k + 1)) ∈ l) (hend : itS l x (n + 1) = x) : GoodC (circL (itS l x) n) := by
  have hback : ∀ i d, itS l x i = itS l x (i + (d + 1)) → i + (d + 1) ≤ n → False := fun i d e h => by
    have key : ∀ t, itS l x (i + t) = itS l x (i + (d + 1) + t) := fun t => by
      induction t with
      | zero => exact e
      | succ t ih => rw [← Nat.add_assoc, ← Nat.add_assoc, itS, ih]; rfl
    have h1 := key (n + 1 - (i + (d + 1)))
    rw [show i + (d + 1) + (n + 1 - (i + (d + 1))) = n + 1 by omega, hend] at h1
    have := hgt (i + (n + 1 - (i + (d + 1)))) (by omega) (by omega)
    omega
  have hnd : (circL (itS l x) n).Nodup := by
    rw [circL, List.Nodup, List.pairwise_map, List.pairwise_iff_getElem]
    intro i j hi hj hij
    simp only [List.getElem_range]
    simp at hi hj
    intro e
    obtain ⟨d, rfl⟩ : ∃ d, j = i + (d + 1) := ⟨j - i - 1, by omega⟩
    exact hback i d e (by omega)
  have hmem : ∀ y ∈ circL (itS l x) n, ∃ q ∈ l, q.1 = y := fun y hy => by
    obtain ⟨i, hi, e⟩ := List.mem_map.1 hy
    exact ⟨_, hm i (by have := List.mem_range.1 hi; omega), e⟩
  have hlen := nodup_len hnd (b := l.map (·.1)) (fun y hy => List.mem_map.2 (hmem y hy))
  rw [List.length_map] at hlen
  refine ⟨by simp [circL]; omega, by omega, hnd, fun y hy => ?_⟩
  obtain ⟨q, hq, rfl⟩ := hmem y hy
  have a := hok.pl q hq
  have b := hok.n15 q hq
  omega

def KeyOk (l : List Move) (mm : List (Int × Int)) : Prop := ∀ k ∈ mm.map (·.1), (k, getI mm k) ∈ l

theorem KeyOk.put {l : List Move} {mm : List (Int × Int)} (h : KeyOk l mm) {q : Move} (hq : q ∈ l) : KeyOk l (putI mm q.1 q.2) := fun k hk => by
  rw [getI_put]
  by_cases e : k = q.1
  · rw [if_pos e, e]; exact hq
  · rw [if_neg e]
    refine h k ?_
    rw [putI_keys] at hk
    split at hk
    · exact hk
    · rcases List.mem_append.1 hk with h | h
      · exact h
      · exact absurd (List.mem_singleton.1 h) e

theorem put_len (mm : List (Int × Int)) (k v : Int) : (putI mm k v).length ≤ mm.length + 1 := by
  have := congrArg List.length (putI_keys mm k v)
  rw [List.length_map] at this
  rw [this]
  split <;> simp

theorem has_key (mm : List (Int × Int)) (k : Int) : mhas mII mm k = true ↔ k ∈ mm.map (·.1) := by
  refine (mhas_iff mII mm k).trans ?_
  constructor
  · rintro ⟨p, hp, e⟩; exact List.mem_map.2 ⟨p, hp, e⟩
  · intro h; obtain ⟨p, hp, e⟩ := List.mem_map.1 h; exact ⟨p, hp, e⟩

def tr26 : Nat → DT
  | _ => .stop

set_option maxHeartbeats 8000000 in
theorem circlesI_ct (yl : Nat) (fl : Bool) (l : List Move) (hll : l.length ≤ 24) (hok : OkM l) : CT Try.prog (Cx.plain yl) noAr 26 [vM fl l] [] (fun o H => ∃ cs, (∀ c ∈ cs, GoodC c) ∧ cs.length ≤ 100 ∧ o = .ret (vL false cs) ∧ H = []) := by
  obtain ⟨dL, hdL⟩ := decL_ex
  refine CT_of_W (tab := tabN dL) (D := [46]) (tr := tr26) Try.func26 (by kernel_rfl) rfl (tabN_ok dL) (Cx.plain_ok _ _) (by kernel_rfl) (fun z S R hz hS hR => ?_)
  cbv
  refine tri_loop hS (Cx.plain_ok _ _) (Nat.zero_le _) (fun m env H => ∃ (i n : Nat) (mm : List (Int × Int)), n = l.length ∧ i ≤ l.length ∧ m = l.length - i ∧ KeyOk l mm ∧ mm.length ≤ i ∧
      env = mkE 93 [(3, .mp 0), (15, vM fl l), (16, .int .i64 n), (17, .int .i64 i)] ∧ H = [.map mII mm]) l.length
    (.keep [3, 15, 16, 17]) (Nat.zero_le _) ⟨0, l.length, [], rfl, Nat.zero_le _, rfl, (fun k hk => by cases hk), Nat.le_refl _, by subst hS; rfl, rfl⟩ ?_
  rintro m env H ⟨i, n, mm, hn, hi, rfl, hko, hml, rfl, rfl⟩ hh
  refine T_of_W (tab := tabN dL) (D := [46]) (tr := tr26) (tabN_ok dL) (Cx.plain_ok _ _) (by kernel_rfl) hh (fun z' S' Q' hz' hS' hQ => ?_)
  cbv
  rcases h6 : z' .lt (Int.ofNat i) (Int.ofNat n) with _ | _
  · have hml2 : mm.length ≤ 24 := Nat.le_trans hml (Nat.le_trans hi hll)
    cbv
    apply hQ
    clear hQ hml hi hn h6
    cbv
    refine tri_loop hS (Cx.plain_ok _ _) (Nat.zero_le _) (fun m env H => ∃ (rem : List Nat) (ks : List Int) (n : Nat) (cur : Option Nat), m = rem.length ∧ n = ks.length ∧ (ks ++ rem.map (keyAt mm)).Perm (mm.map (·.1)) ∧
        env = mkE 93 [(3, .mp 0), (6, .ref 2 1 0 n), (28, .itr 1)] ∧ H = [.map mII mm, .iter 0 mII mm rem cur, .arr 3 elI ks]) mm.length
      (.trans (.keep [3, 6, 28]) (.own 6 3 elI_ok rfl)) (Nat.zero_le _) ⟨List.range mm.length, [], 0, none, by simp, rfl, by rw [keyAt_range]; exact List.Perm.refl _, rfl, by subst hz; rfl⟩ ?_
    rintro m env H ⟨rem, ks, n2, cur, rfl, hn2, hperm, rfl, rfl⟩ hh2
    have hkl : ks.length + rem.length = mm.length := by
      have := hperm.length_eq
      simpa using this
    refine T_of_W (tab := tabN dL) (D := [46]) (tr := tr26) (tabN_ok dL) (Cx.plain_ok _ _) (by kernel_rfl) hh2 (fun z2 S2 Q2 hz2 hS2 hQ2 => ?_)
    cbv
    refine ⟨⟨rfl, rfl⟩, fun hrem => ?_, fun i2 hi2 => ?_⟩
    · subst hrem
      rw [List.map_nil, List.append_nil] at hperm
      cbv
      apply hQ2
      clear hQ2
      cbv
      refine use_ct [2] hS (Cx.plain_ok _ _) rfl (fun yl => sort_ct yl n2 ks hn2 (by omega)) (may_none [2]) ?_
      rintro o h' ⟨ys, hys, rfl, rfl⟩
      have hyl : n2 = ys.length := by rw [hn2, hys, sortI_len]
      have hnm : n2 ≤ 24 := by omega
      clear hh hh2 hperm hkl hys
      cbv
      refine tri_loop hS (Cx.plain_ok _ _) (Nat.zero_le _) (fun m env H => ∃ (i no : Nat) (outs : List (List Int)), i ≤ n2 ∧ m = n2 - i ∧ no = outs.length ∧ no ≤ i ∧ (∀ c ∈ outs, GoodC c) ∧
          env = mkE 93 [(3, .mp 0), (8, .ref 3 1 0 no), (39, .ref 2 1 0 n2), (40, .int .i64 (Int.ofNat n2)), (41, .int .i64 i)] ∧ H = [.map mII mm, .dead, .arr 3 elI ys, .arr 23 (elN dL) outs]) n2
        (.trans (.keep [3, 8, 39, 40, 41]) (.trans (.dead 1) (.own 8 23 (elN_ok dL) rfl))) (Nat.zero_le _) ⟨0, 0, [], Nat.zero_le _, rfl, rfl, Nat.le_refl _, (fun c hc => by cases hc), rfl, rfl⟩ ?_
      rintro m env H ⟨i, no, outs, hi, rfl, hno, hni, hgood, rfl, rfl⟩ hh
      refine T_of_W (tab := tabN dL) (D := [46]) (tr := tr26) (tabN_ok dL) (Cx.plain_ok _ _) (by kernel_rfl) hh (fun z3 S3 Q3 hz3 hS3 hQ3 => ?_)
      cbv
      rcases h7 : z3 .lt (Int.ofNat i) (Int.ofNat n2) with _ | _
      · cbv
        apply hQ3
        clear hQ3
        cbv
        refine hR _ _ _ _ (.trans (.freeze 3 rfl) (.drop 0 rfl (Nat.zero_le _))) ⟨outs, hgood, by omega, ?_, rfl⟩
        show Out.ret (vL false (outs.take no)) = _
        rw [hno, List.take_length]
      · have hlt : i < n2 := by
          rw [hz3] at h7
          have : (i : Int) < (n2 : Int) := of_decide_eq_true h7
          omega
        have einc : z3 .ar .add .i64 (Int.ofNat i) 1 = Int.ofNat (i + 1) := by rw [hz3]; exact rz_inc i (by omega)
        have hixn : z3 .ixn n2 (Int.ofNat i) := by rw [hz3]; exact ⟨Int.natCast_nonneg _, Int.ofNat_lt.2 hlt⟩
        cbv
        refine ⟨hixn, ?_⟩
        have gx : ∃ x : Int, S3 .at_ elI.α elI.d ys (z3 .add 0 (z3 .nat (Int.ofNat i))) = x := ⟨_, rfl⟩
        obtain ⟨x, hx⟩ := gx
        rw [hx]
        clear hx
        have e1 : S3 .mget mII mm (mII.kdec (.int .i64 x)) = getI mm x := by rw [hS3]; rfl
        have e2 : S3 .mhas mII mm (mII.kdec (.int .i64 x)) = mhas mII mm x := by rw [hS3]; rfl
        have nxt : ∀ y, mhas mII mm y = true → (y, getI mm y) ∈ l ∧ getI mm y = sourceR l y := fun y hy => by
          have h := hko y ((has_key mm y).1 hy)
          exact ⟨h, (source_of hok.nd h).symm⟩
        rw [e1, e2]
        obtain ⟨p0, hp0⟩ : ∃ p0, p0 = getI mm x := ⟨_, rfl⟩
        obtain ⟨is0, his0⟩ : ∃ is0, is0 = mhas mII mm x := ⟨_, rfl⟩
        rw [← hp0, ← his0]
        have hstart : is0 = true → p0 = itS l x 1 ∧ (itS l x 0, itS l x 1) ∈ l := fun h => by
          obtain ⟨a, b⟩ := nxt x (by rw [← his0]; exact h)
          rw [hp0]
          exact ⟨b, by rw [show itS l x 1 = sourceR l x from rfl, ← b]; exact a⟩
        clear hp0 his0 e1 e2
        refine tri_post hS3 (Nat.zero_le _) ?_
        refine tri_loop hS3 (Cx.plain_ok _ _) (Nat.zero_le _) (fun m env H => ∃ (k nc : Nat) (c : List Int) (p : Int) (is : Bool), nc = k + 1 ∧ c = circL (itS l x) k ∧ (∀ j ≤ k, 1 ≤ j → x < itS l x j) ∧ (∀ j < k, (itS l x j, itS l x (j + 1)) ∈ l) ∧ (is = true → p = itS l x (k + 1) ∧ (itS l x k, itS l x (k + 1)) ∈ l) ∧ nc ≤ mm.length + 1 ∧ m = mm.length + 1 - nc ∧
            env = mkE 93 [(3, .mp 0), (8, .ref 3 1 0 no), (10, .int .i64 x), (11, .ref 4 1 0 nc), (12, .int .i64 p), (13, .bool is), (39, .ref 2 1 0 n2), (40, .int .i64 (Int.ofNat n2)), (41, .int .i64 (Int.ofNat i))] ∧ H = [.map mII mm, .dead, .arr 3 elI ys, .arr 23 (elN dL) outs, .arr 3 elI c]) mm.length
          (.keep [3, 8, 10, 11, 12, 13, 39, 40, 41]) (Nat.zero_le _) ⟨0, 1, [x], p0, is0, rfl, rfl, (fun j hj h => by omega), (fun j hj => by omega), hstart, by omega, rfl, rfl, rfl⟩ ?_
        clear hstart
        rintro m env H ⟨k, nc, c, p, is, hnc, hc, hgt, hmm, his, hb, rfl, rfl, rfl⟩ hh
        have hcl : c.length = nc := by rw [hc, hnc]; simp [circL]
        refine T_of_W (tab := tabN dL) (D := [46]) (tr := tr26) (tabN_ok dL) (Cx.plain_ok _ _) (by kernel_rfl) hh (fun z6 S6 Q6 hz6 hS6 hQ6 => ?_)
        have stop : ∀ env', keepE [3, 8, 10, 11, 12, 13, 39, 40, 41] env' = mkE 93 [(3, .mp 0), (8, .ref 3 1 0 no), (10, .int .i64 x), (11, .ref 4 1 0 nc), (12, .int .i64 p), (13, .bool is), (39, .ref 2 1 0 n2), (40, .int .i64 (Int.ofNat n2)), (41, .int .i64 (Int.ofNat i))] → Q6 (.exit 6) env' [.map mII mm, .dead, .arr 3 elI ys, .arr 23 (elN dL) outs, .arr 3 elI c] := fun env' he => by
          apply hQ6
          clear hQ6
          refine ⟨mkE 93 [(3, .mp 0), (8, .ref 3 1 0 no), (10, .int .i64 x), (11, vI false c), (12, .int .i64 p), (13, .bool is), (39, .ref 2 1 0 n2), (40, .int .i64 (Int.ofNat n2)), (41, .int .i64 (Int.ofNat i))], [.map mII mm, .dead, .arr 3 elI ys, .arr 23 (elN dL) outs, .dead], .trans (Wk.to (.keep [3, 8, 10, 11, 12, 13, 39, 40, 41]) he) (Wk.to (.freeze 4 rfl) ?_), ?_⟩
          · show mkE 93 [(3, .mp 0), (8, .ref 3 1 0 no), (10, .int .i64 x), (11, vI false (c.take nc)), (12, .int .i64 p), (13, .bool is), (39, .ref 2 1 0 n2), (40, .int .i64 (Int.ofNat n2)), (41, .int .i64 (Int.ofNat i))] = _
            rw [← hcl, List.take_length]
          have next : ∀ env', keepE [3, 8, 39, 40, 41] env' = mkE 93 [(3, .mp 0), (8, .ref 3 1 0 no), (39, .ref 2 1 0 n2), (40, .int .i64 (Int.ofNat n2)), (41, .int .i64 (Int.ofNat (i + 1)))] → Q3 .norm env' [.map mII mm, .dead, .arr 3 elI ys, .arr 23 (elN dL) outs, .dead] := fun env' he => by
            apply hQ3
            exact ⟨_, _, _, by omega, .trans (Wk.to (.keep [3, 8, 39, 40, 41]) he) (.drop 4 rfl (Nat.zero_le _)), i + 1, no, outs, hlt, rfl, hno, by omega, hgood, rfl, rfl⟩
          cbv
          cases is with
          | false =>
            cbv
            rw [einc]
            exact next _ rfl
          | true =>
            cbv
            rcases h8 : z3 .eq p x with _ | _
            · cbv
              rw [einc]
              exact next _ rfl
            · have h8' : p = x := by rw [hz3] at h8; exact beq_iff_eq.1 h8
              cbv
              rcases h9 : z3 .lt 1 (S3 .len Int c) with _ | _
              · cbv
                rw [einc]
                exact next _ rfl
              · have h9' : 1 < c.length := by
                  rw [hz3, hS3] at h9
                  have : (1 : Int) < (c.length : Int) := of_decide_eq_true h9
                  omega
                obtain ⟨g1, g2⟩ := his rfl
                have hgc : GoodC c := by
                  rw [hc]
                  refine good_circ hok hll (by omega) hgt (fun j hj => ?_) (by rw [← g1, h8'])
                  by_cases e : j = k
                  · rw [e]; exact g2
                  · exact hmm j (by omega)
                cbv
                refine ⟨congrArg (fun a => [a]) (congrArg encL (hdL c)), by rw [hz3]; show no + 1 ≤ 1000000; omega, by rw [hS3]; exact fun k hk => absurd hk (Nat.not_lt_zero _), ?_⟩
                apply hQ3
                rw [einc]
                refine ⟨_, _, _, by omega, .trans (.keep [3, 8, 39, 40, 41]) (.drop 4 rfl (Nat.zero_le _)), i + 1, no + 1, outs ++ [c], hlt, rfl, by simp [hno], by omega, ?_, by rw [hz3]; rfl, ?_⟩
                · intro c' hc'
                  rcases List.mem_append.1 hc' with h | h
                  · exact hgood c' h
                  · rw [List.mem_singleton.1 h]; exact hgc
                · rw [hS3]
                  show [Blk.map mII mm, .dead, .arr 3 elI ys, .arr 23 (elN dL) ((outs.take no).drop 0 ++ [dL (encL c)])] = _
                  rw [hno, List.take_length, hdL]; rfl
        cbv
        cases is with
        | false =>
          cbv
          exact stop _ rfl
        | true =>
          obtain ⟨g1, g2⟩ := his rfl
          cbv
          rcases h8 : z6 .lt x p with _ | _
          · cbv
            exact stop _ rfl
          · have h8' : x < p := by rw [hz6] at h8; exact of_decide_eq_true h8
            cbv
            refine ⟨by rw [hz6]; show mm.length + 0 ≤ 1000000; omega, ?_⟩
            rcases h9 : z6 .le (Int.ofNat nc) (S6 .len (mII.κ × mII.β) mm) with _ | _
            · cbv
              exact stop _ rfl
            · have h9' : nc ≤ mm.length := by
                rw [hz6, hS6] at h9
                have : (nc : Int) ≤ (mm.length : Int) := of_decide_eq_true h9
                omega
              have e1 : S6 .mget mII mm (mII.kdec (.int .i64 p)) = getI mm p := by rw [hS6]; rfl
              have e2 : S6 .mhas mII mm (mII.kdec (.int .i64 p)) = mhas mII mm p := by rw [hS6]; rfl
              cbv
              refine ⟨by rw [hz6]; show nc + 1 ≤ 1000000; omega, by rw [hS6]; exact fun k hk => absurd hk (Nat.not_lt_zero _), ?_⟩
              rw [e1, e2]
              apply hQ6
              refine ⟨_, _, _, ?_, .keep [3, 8, 10, 11, 12, 13, 39, 40, 41], k + 1, nc + 1, c ++ [p], getI mm p, mhas mII mm p, by omega, ?_, ?_, ?_, ?_, by omega, rfl, by rw [hz6]; rfl, ?_⟩
              · omega
              · rw [hc, g1]; exact circ_snoc _ _
              · intro j hj h1
                by_cases e : j = k + 1
                · rw [e, ← g1]; exact h8'
                · exact hgt j (by omega) h1
              · intro j hj
                by_cases e : j = k
                · rw [e]; exact g2
                · exact hmm j (by omega)
              · intro hy
                obtain ⟨a, b⟩ := nxt p hy
                have e : itS l x (k + 1 + 1) = getI mm p := by rw [b, g1]; rfl
                refine ⟨e.symm, ?_⟩
                rw [e, ← g1]; exact a
              · rw [hS6]
                show [Blk.map mII mm, .dead, .arr 3 elI ys, .arr 23 (elN dL) outs, .arr 3 elI ((c.take nc).drop 0 ++ [p])] = _
                rw [← hcl, List.take_length]; rfl
    · have ekey : S2 .mkey mII mm i2 = keyAt mm i2 := by rw [hS2]; exact keyM_real mII mm i2
      have ers : z2 .iers rem i2 = rem.erase i2 := by rw [hz2]; rfl
      have hrl : (rem.erase i2).length + 1 = rem.length := by
        have h1 := List.length_erase_of_mem hi2
        have h2 := List.length_pos_of_mem hi2
        omega
      have hperm2 : ((ks ++ [keyAt mm i2]) ++ (rem.erase i2).map (keyAt mm)).Perm (mm.map (·.1)) := by
        refine List.Perm.trans ?_ hperm
        rw [List.append_assoc]
        refine List.Perm.append_left ks ?_
        have := (List.perm_cons_erase hi2).map (keyAt mm)
        exact this.symm
      cbv
      rw [ekey, ers]
      generalize keyAt mm i2 = kk at hperm2 ⊢
      refine ⟨⟨rfl, rfl⟩, ?_⟩
      cbv
      refine ⟨by rw [hz2]; show n2 + 1 ≤ 1000000; omega, by rw [hS2]; exact fun k hk => absurd hk (Nat.not_lt_zero _), ?_⟩
      apply hQ2
      have elen : z2 .add n2 1 = n2 + 1 := by rw [hz2]; rfl
      have eapp : S2 .app elI.α (S2 .cut elI.α ks 0 n2) [kk] = ks ++ [kk] := by
        rw [hS2]
        show (ks.take n2).drop 0 ++ [kk] = _
        rw [hn2, List.take_length]; rfl
      refine ⟨_, _, _, ?_, .keep [3, 6, 28], rem.erase i2, ks ++ [kk], z2 .add n2 1, some i2, rfl, by rw [elen, List.length_append, ← hn2]; rfl, hperm2, rfl, ?_⟩
      · omega
      · rw [← eapp]; rfl
  · have hlt : i < l.length := by
      rw [hz'] at h6
      have : (i : Int) < (n : Int) := of_decide_eq_true h6
      omega
    have einc : z' .ar .add .i64 (Int.ofNat i) 1 = Int.ofNat (i + 1) := by rw [hz']; exact rz_inc i (by omega)
    have eat : S' .at_ (Int × Int) (0, 0) l (z' .nat (Int.ofNat i)) = l.getD i (0, 0) := by rw [hS', hz']; rfl
    have hidx : S' .idx (Int × Int) l (Int.ofNat i) := by rw [hS']; simp [reals]; omega
    have hmem := getD_memN l (0, 0) hlt
    have hput := hko.put hmem
    have hpl := put_len mm (l.getD i (0, 0)).1 (l.getD i (0, 0)).2
    cbv
    refine ⟨hidx, ?_⟩
    rw [eat]
    generalize l.getD i (0, 0) = q at hput hpl ⊢
    obtain ⟨to, frm⟩ := q
    cbv
    apply hQ
    rw [einc]
    refine ⟨_, _, _, by omega, .trans (.keep [3, 15, 16, 17]) (.drop 1 rfl (Nat.zero_le _)), i + 1, n, putI mm to frm, hn, hlt, rfl, hput, ?_, rfl, ?_⟩
    · have hpl : (putI mm to frm).length ≤ mm.length + 1 := hpl
      omega
    · subst hS'; rfl
end Go.Ab
