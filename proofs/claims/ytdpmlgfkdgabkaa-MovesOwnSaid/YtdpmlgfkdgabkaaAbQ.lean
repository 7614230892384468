/- Contracts of the program's functions over an abstract state, and what they rest on: part AbQ. No condition. -/
import Derived.Test.YtdpmlgfkdgabkaaAbP
set_option linter.unusedVariables false
set_option linter.unusedSimpArgs false

/- MovesDo. -/
namespace Go.Ab
open Go.Proofs

theorem doR_len (reg : Int → Int) : ∀ (c : List Mac) (p : List Int), (doR reg c p).length = p.length
  | [], _ => rfl
  | m :: c, p => by
    show (doR reg c (doS reg p m)).length = _
    rw [doR_len reg c, doS_len]

set_option maxHeartbeats 4000000 in
theorem movesdo_ct (yl : Nat) (fc fl fp : Bool) (c : List MacX) (l : List Move) (p : List Int) : CT Try.prog (Cx.plain yl) noAr 8 [vX fc c, vM fl l, vJ fp p] [] (fun o H => o = .ret (.bool true) ∧ H = []) := by
  refine CT_of_W (tab := tabM) (D := []) (tr := noTr) Try.func8 (by kernel_rfl) rfl tabM_ok (Cx.plain_ok _ _) (by kernel_rfl) (fun z S R hz hS hR => ?_)
  cbv
  refine use_ct [] hS (Cx.plain_ok _ _) rfl (fun yl => awake_ct yl) (may_none []) ?_
  rintro o h' ⟨rfl, rfl⟩
  cbv
  have fin : ∀ H, R [.bool true] H := fun H => hR _ _ _ _ (.drop 0 rfl (Nat.zero_le _)) ⟨rfl, by cases H <;> rfl⟩
  rcases h1 : z .lt 24 (S .len (Mac × List Int) c) with _ | _
  · have hc0 : c.length ≤ 24 := by
      rw [hz, hS] at h1
      have : ¬ (24 : Int) < (c.length : Int) := of_decide_eq_false h1
      omega
    cbv
    refine ⟨by rw [hz, hS]; exact ⟨Int.natCast_nonneg _, Int.le_refl _⟩, ?_⟩
    have hc' : (S .cut (Mac × List Int) c 0 (z .nat (S .len (Mac × List Int) c))).length ≤ 24 := by
      rw [hz, hS]; show ((c.take c.length).drop 0).length ≤ 24; rw [List.drop_zero, List.length_take]; omega
    generalize S .cut (Mac × List Int) c 0 (z .nat (S .len (Mac × List Int) c)) = c' at hc' ⊢
    cbv
    rcases h2 : z .lt 40 (S .len (Int) p) with _ | _
    · have hc0 : p.length ≤ 40 := by
        rw [hz, hS] at h2
        have : ¬ (40 : Int) < (p.length : Int) := of_decide_eq_false h2
        omega
      cbv
      refine ⟨by rw [hz, hS]; exact ⟨Int.natCast_nonneg _, Int.le_refl _⟩, ?_⟩
      have hp' : (S .cut (Int) p 0 (z .nat (S .len (Int) p))).length ≤ 40 := by
        rw [hz, hS]; show ((p.take p.length).drop 0).length ≤ 40; rw [List.drop_zero, List.length_take]; omega
      generalize S .cut (Int) p 0 (z .nat (S .len (Int) p)) = p' at hp' ⊢
      cbv
      refine use_ct [] hS (Cx.plain_ok _ _) rfl (fun yl => do23_fz yl false false c' p' (by omega) (by omega)) (may_none []) ?_
      rintro o h' ⟨d1, hd1, rfl, rfl⟩
      cbv
      refine use_ct [] hS (Cx.plain_ok _ _) rfl (fun yl => do24_fz yl false false c' p' (by omega) (by omega)) (may_none []) ?_
      rintro o h' ⟨d2, hd2, rfl, rfl⟩
      have hl1 : d1.length ≤ 40 := by rw [hd1, doR_len]; omega
      obtain rfl : d2 = d1 := by rw [hd1, hd2]
      clear hd1 hd2
      cbv
      refine use_ct [] hS (Cx.plain_ok _ _) rfl (fun yl => words_ct yl false false d2 (by omega)) (may_none []) ?_
      rintro o h' ⟨rfl, rfl⟩
      cbv
      refine use_ct [] hS (Cx.plain_ok _ _) rfl (fun yl => few_ct yl fl l) (may_none []) ?_
      rintro o h' ⟨l1, hl1, rfl, rfl⟩
      cbv
      refine use_ct [] hS (Cx.plain_ok _ _) rfl (fun yl => afterI_fz yl false false l1 p' (by rw [hl1, List.length_take]; omega) (by omega)) (may_none []) ?_
      rintro o h' ⟨e1, he1, rfl, rfl⟩
      cbv
      refine use_ct [] hS (Cx.plain_ok _ _) rfl (fun yl => few_ct yl fl l) (may_none []) ?_
      rintro o h' ⟨l2, hl2, rfl, rfl⟩
      obtain rfl : l2 = l1 := by rw [hl1, hl2]
      cbv
      refine use_ct [] hS (Cx.plain_ok _ _) rfl (fun yl => afterR_fz yl false false l2 p' (by rw [hl1, List.length_take]; omega) (by omega)) (may_none []) ?_
      rintro o h' ⟨e2, he2, rfl, rfl⟩
      have hm1 : e1.length ≤ 40 := by rw [he1, afterR_len]; omega
      obtain rfl : e2 = e1 := by rw [he1, he2]
      clear he1 he2
      cbv
      refine use_ct [] hS (Cx.plain_ok _ _) rfl (fun yl => words_ct yl false false e2 (by omega)) (may_none []) ?_
      rintro o h' ⟨rfl, rfl⟩
      cbv
      exact fin _
    · have hc0 : 40 < p.length := by
        rw [hz, hS] at h2
        have : (40 : Int) < (p.length : Int) := of_decide_eq_true h2
        omega
      cbv
      refine ⟨by rw [hz, hS]; exact ⟨by decide, by simp [reals]; omega⟩, ?_⟩
      have hp' : (S .cut (Int) p 0 (z .nat 40)).length ≤ 40 := by
        rw [hz, hS]; show ((p.take 40).drop 0).length ≤ 40; rw [List.drop_zero, List.length_take]; omega
      generalize S .cut (Int) p 0 (z .nat 40) = p' at hp' ⊢
      cbv
      refine use_ct [] hS (Cx.plain_ok _ _) rfl (fun yl => do23_fz yl false false c' p' (by omega) (by omega)) (may_none []) ?_
      rintro o h' ⟨d1, hd1, rfl, rfl⟩
      cbv
      refine use_ct [] hS (Cx.plain_ok _ _) rfl (fun yl => do24_fz yl false false c' p' (by omega) (by omega)) (may_none []) ?_
      rintro o h' ⟨d2, hd2, rfl, rfl⟩
      have hl1 : d1.length ≤ 40 := by rw [hd1, doR_len]; omega
      obtain rfl : d2 = d1 := by rw [hd1, hd2]
      clear hd1 hd2
      cbv
      refine use_ct [] hS (Cx.plain_ok _ _) rfl (fun yl => words_ct yl false false d2 (by omega)) (may_none []) ?_
      rintro o h' ⟨rfl, rfl⟩
      cbv
      refine use_ct [] hS (Cx.plain_ok _ _) rfl (fun yl => few_ct yl fl l) (may_none []) ?_
      rintro o h' ⟨l1, hl1, rfl, rfl⟩
      cbv
      refine use_ct [] hS (Cx.plain_ok _ _) rfl (fun yl => afterI_fz yl false false l1 p' (by rw [hl1, List.length_take]; omega) (by omega)) (may_none []) ?_
      rintro o h' ⟨e1, he1, rfl, rfl⟩
      cbv
      refine use_ct [] hS (Cx.plain_ok _ _) rfl (fun yl => few_ct yl fl l) (may_none []) ?_
      rintro o h' ⟨l2, hl2, rfl, rfl⟩
      obtain rfl : l2 = l1 := by rw [hl1, hl2]
      cbv
      refine use_ct [] hS (Cx.plain_ok _ _) rfl (fun yl => afterR_fz yl false false l2 p' (by rw [hl1, List.length_take]; omega) (by omega)) (may_none []) ?_
      rintro o h' ⟨e2, he2, rfl, rfl⟩
      have hm1 : e1.length ≤ 40 := by rw [he1, afterR_len]; omega
      obtain rfl : e2 = e1 := by rw [he1, he2]
      clear he1 he2
      cbv
      refine use_ct [] hS (Cx.plain_ok _ _) rfl (fun yl => words_ct yl false false e2 (by omega)) (may_none []) ?_
      rintro o h' ⟨rfl, rfl⟩
      cbv
      exact fin _
  · have hc0 : 24 < c.length := by
      rw [hz, hS] at h1
      have : (24 : Int) < (c.length : Int) := of_decide_eq_true h1
      omega
    cbv
    refine ⟨by rw [hz, hS]; exact ⟨by decide, by simp [reals]; omega⟩, ?_⟩
    have hc' : (S .cut (Mac × List Int) c 0 (z .nat 24)).length ≤ 24 := by
      rw [hz, hS]; show ((c.take 24).drop 0).length ≤ 24; rw [List.drop_zero, List.length_take]; omega
    generalize S .cut (Mac × List Int) c 0 (z .nat 24) = c' at hc' ⊢
    cbv
    rcases h2 : z .lt 40 (S .len (Int) p) with _ | _
    · have hc0 : p.length ≤ 40 := by
        rw [hz, hS] at h2
        have : ¬ (40 : Int) < (p.length : Int) := of_decide_eq_false h2
        omega
      cbv
      refine ⟨by rw [hz, hS]; exact ⟨Int.natCast_nonneg _, Int.le_refl _⟩, ?_⟩
      have hp' : (S .cut (Int) p 0 (z .nat (S .len (Int) p))).length ≤ 40 := by
        rw [hz, hS]; show ((p.take p.length).drop 0).length ≤ 40; rw [List.drop_zero, List.length_take]; omega
      generalize S .cut (Int) p 0 (z .nat (S .len (Int) p)) = p' at hp' ⊢
      cbv
      refine use_ct [] hS (Cx.plain_ok _ _) rfl (fun yl => do23_fz yl false false c' p' (by omega) (by omega)) (may_none []) ?_
      rintro o h' ⟨d1, hd1, rfl, rfl⟩
      cbv
      refine use_ct [] hS (Cx.plain_ok _ _) rfl (fun yl => do24_fz yl false false c' p' (by omega) (by omega)) (may_none []) ?_
      rintro o h' ⟨d2, hd2, rfl, rfl⟩
      have hl1 : d1.length ≤ 40 := by rw [hd1, doR_len]; omega
      obtain rfl : d2 = d1 := by rw [hd1, hd2]
      clear hd1 hd2
      cbv
      refine use_ct [] hS (Cx.plain_ok _ _) rfl (fun yl => words_ct yl false false d2 (by omega)) (may_none []) ?_
      rintro o h' ⟨rfl, rfl⟩
      cbv
      refine use_ct [] hS (Cx.plain_ok _ _) rfl (fun yl => few_ct yl fl l) (may_none []) ?_
      rintro o h' ⟨l1, hl1, rfl, rfl⟩
      cbv
      refine use_ct [] hS (Cx.plain_ok _ _) rfl (fun yl => afterI_fz yl false false l1 p' (by rw [hl1, List.length_take]; omega) (by omega)) (may_none []) ?_
      rintro o h' ⟨e1, he1, rfl, rfl⟩
      cbv
      refine use_ct [] hS (Cx.plain_ok _ _) rfl (fun yl => few_ct yl fl l) (may_none []) ?_
      rintro o h' ⟨l2, hl2, rfl, rfl⟩
      obtain rfl : l2 = l1 := by rw [hl1, hl2]
      cbv
      refine use_ct [] hS (Cx.plain_ok _ _) rfl (fun yl => afterR_fz yl false false l2 p' (by rw [hl1, List.length_take]; omega) (by omega)) (may_none []) ?_
      rintro o h' ⟨e2, he2, rfl, rfl⟩
      have hm1 : e1.length ≤ 40 := by rw [he1, afterR_len]; omega
      obtain rfl : e2 = e1 := by rw [he1, he2]
      clear he1 he2
      cbv
      refine use_ct [] hS (Cx.plain_ok _ _) rfl (fun yl => words_ct yl false false e2 (by omega)) (may_none []) ?_
      rintro o h' ⟨rfl, rfl⟩
      cbv
      exact fin _
    · have hc0 : 40 < p.length := by
        rw [hz, hS] at h2
        have : (40 : Int) < (p.length : Int) := of_decide_eq_true h2
        omega
      cbv
      refine ⟨by rw [hz, hS]; exact ⟨by decide, by simp [reals]; omega⟩, ?_⟩
      have hp' : (S .cut (Int) p 0 (z .nat 40)).length ≤ 40 := by
        rw [hz, hS]; show ((p.take 40).drop 0).length ≤ 40; rw [List.drop_zero, List.length_take]; omega
      generalize S .cut (Int) p 0 (z .nat 40) = p' at hp' ⊢
      cbv
      refine use_ct [] hS (Cx.plain_ok _ _) rfl (fun yl => do23_fz yl false false c' p' (by omega) (by omega)) (may_none []) ?_
      rintro o h' ⟨d1, hd1, rfl, rfl⟩
      cbv
      refine use_ct [] hS (Cx.plain_ok _ _) rfl (fun yl => do24_fz yl false false c' p' (by omega) (by omega)) (may_none []) ?_
      rintro o h' ⟨d2, hd2, rfl, rfl⟩
      have hl1 : d1.length ≤ 40 := by rw [hd1, doR_len]; omega
      obtain rfl : d2 = d1 := by rw [hd1, hd2]
      clear hd1 hd2
      cbv
      refine use_ct [] hS (Cx.plain_ok _ _) rfl (fun yl => words_ct yl false false d2 (by omega)) (may_none []) ?_
      rintro o h' ⟨rfl, rfl⟩
      cbv
      refine use_ct [] hS (Cx.plain_ok _ _) rfl (fun yl => few_ct yl fl l) (may_none []) ?_
      rintro o h' ⟨l1, hl1, rfl, rfl⟩
      cbv
      refine use_ct [] hS (Cx.plain_ok _ _) rfl (fun yl => afterI_fz yl false false l1 p' (by rw [hl1, List.length_take]; omega) (by omega)) (may_none []) ?_
      rintro o h' ⟨e1, he1, rfl, rfl⟩
      cbv
      refine use_ct [] hS (Cx.plain_ok _ _) rfl (fun yl => few_ct yl fl l) (may_none []) ?_
      rintro o h' ⟨l2, hl2, rfl, rfl⟩
      obtain rfl : l2 = l1 := by rw [hl1, hl2]
      cbv
      refine use_ct [] hS (Cx.plain_ok _ _) rfl (fun yl => afterR_fz yl false false l2 p' (by rw [hl1, List.length_take]; omega) (by omega)) (may_none []) ?_
      rintro o h' ⟨e2, he2, rfl, rfl⟩
      have hm1 : e1.length ≤ 40 := by rw [he1, afterR_len]; omega
      obtain rfl : e2 = e1 := by rw [he1, he2]
      clear he1 he2
      cbv
      refine use_ct [] hS (Cx.plain_ok _ _) rfl (fun yl => words_ct yl false false e2 (by omega)) (may_none []) ?_
      rintro o h' ⟨rfl, rfl⟩
      cbv
      exact fin _
end Go.Ab

/- MovesOwn. -/
namespace Go.Ab
open Go.Proofs

def tr10 : Nat → DT := fun _ => (.take 0 (.take 1 (.take 2 (.take 4 (.take 5 (.take 6 (.alt 3 (.alt 7 (.take 8 .done) .stop) (.alt 7 (.alt 3 (.take 8 .done) .stop) .stop))))))))

set_option maxHeartbeats 4000000 in
theorem own_ct (yl : Nat) (fs fp : Bool) (s p : List Int) : CT Try.prog (Cx.plain yl) noAr 10 [vI fs s, vJ fp p] [] (fun o H => o = .ret (.bool true) ∧ H = []) := by
  refine CT_of_W (tab := tabM) (D := [26]) (tr := tr10) Try.func10 (by kernel_rfl) rfl tabM_ok (Cx.plain_ok _ _) (by kernel_rfl) (fun z S R hz hS hR => ?_)
  cbv
  refine use_ct [] hS (Cx.plain_ok _ _) rfl (fun yl => awake_ct yl) (may_none []) ?_
  rintro o h' ⟨rfl, rfl⟩
  cbv
  refine use_ct [] hS (Cx.plain_ok _ _) rfl (fun yl => made_ct yl fs s) (may_none []) ?_
  rintro o h' ⟨l, hl, rfl, rfl⟩
  have hll : l.length ≤ 24 := by
    have := madeTo_len s (min s.length 20)
    rw [hl]; unfold madeR; omega
  cbv
  rcases h2 : z .lt 40 (S .len (Int) p) with _ | _
  · have hc0 : p.length ≤ 40 := by
      rw [hz, hS] at h2
      have : ¬ (40 : Int) < (p.length : Int) := of_decide_eq_false h2
      omega
    cbv
    refine ⟨by rw [hz, hS]; exact ⟨Int.natCast_nonneg _, Int.le_refl _⟩, ?_⟩
    have hp' : (S .cut (Int) p 0 (z .nat (S .len (Int) p))).length ≤ 40 := by
      rw [hz, hS]; show ((p.take p.length).drop 0).length ≤ 40; rw [List.drop_zero, List.length_take]; omega
    generalize S .cut (Int) p 0 (z .nat (S .len (Int) p)) = p' at hp' ⊢
    cbv
    refine ⟨false, p', rfl, by rw [hz]; show 0 + p'.length ≤ 1000000; omega, by rw [hS]; exact fun k hk => absurd hk (Nat.not_lt_zero _), ?_⟩
    have lo := order_len l 15 10 hll
    cbv
    refine use_ct [] hS (Cx.plain_ok _ _) rfl (fun yl => order17_ct yl false l 15 10 hll (by decide)) (may_none []) ?_
    rintro o h' ⟨rfl, rfl⟩
    generalize (orderR l 15 10).1 = A at lo ⊢
    generalize (orderR l 15 10).2 = e
    cbv
    refine use_ct [] hS (Cx.plain_ok _ _) rfl (fun yl => afterI_ct yl false false l p' (by omega) (by omega)) (may_none []) ?_
    rintro o h' ⟨n1, ys1, hys1, hn1, rfl, rfl⟩
    have hm1 : n1 ≤ 1000 := by rw [hn1, hys1, afterR_len]; omega
    clear hys1
    cbv
    refine use_ct [] hS (Cx.plain_ok _ _) rfl (fun yl => CT.le (do23_ct yl false false (A.map fun m => (m, [])) p' (by rw [List.length_map]; exact lo) (by omega)) ⟨LeV.macs _ _, LeV.refl _, trivial⟩) (may_none []) ?_
    rintro o h' ⟨n2, zs1, hzs1, hn2, rfl, rfl⟩
    have hm2 : n2 ≤ 1000 := by rw [hn2, hzs1, doR_len]; omega
    clear hzs1
    have ex : (S .app elJ.α (S .cut elJ.α [] 0 0) p').take (z .add 0 p'.length) = p' := by
      rw [hz, hS]
      show (([] : List Int).take 0 ++ p').take (0 + p'.length) = p'
      rw [Nat.zero_add]; exact List.take_length
    cbv
    refine tri_loop hS (Cx.plain_ok _ _) (Nat.zero_le _) (fun m env H => ∃ (i n1 n2 : Nat) (p2 ys zs : List Int), p2 = p' ∧ n1 = ys.length ∧ n2 = zs.length ∧ i ≤ n1 ∧ n1 ≤ 1000 ∧ n2 ≤ 1000 ∧ m = n1 - i ∧
        env = mkE 82 [(0, vI fs s), (5, .bool true), (6, vM false l), (7, vJ false p'), (8, vJ false p2), (11, .ref 1 1 0 n1), (12, .ref 2 1 0 n2), (13, .int .i64 i)] ∧ H = [.dead, .arr 21 elJ ys, .arr 21 elJ zs]) n1
      (.trans (.freeze 0 rfl) (.keep [0, 5, 6, 7, 8, 11, 12, 13])) (Nat.zero_le _) ⟨0, n1, n2, _, ys1, zs1, ex, hn1, hn2, Nat.zero_le _, hm1, hm2, rfl, rfl, rfl⟩ ?_
    clear ex hn1 hn2 hm1 hm2
    rintro m env H ⟨i, n1, n2, p2, ys, zs, hp2, hn1, hn2, hi, hm1, hm2, rfl, rfl, rfl⟩ hh
    refine T_of_W (tab := tabM) (D := [26]) (tr := tr10) tabM_ok (Cx.plain_ok _ _) (by kernel_rfl) hh (fun z1 S1 Q1 hz1 hS1 hQ1 => ?_)
    cbv
    rcases h1 : z1 .lt (Int.ofNat i) (Int.ofNat n1) with _ | _
    · cbv
      apply hQ1
      clear hQ1
      cbv
      refine tri_loop hS (Cx.plain_ok _ _) (Nat.zero_le _) (fun m env H => ∃ (i n2 : Nat) (ys zs : List Int), n2 = zs.length ∧ i ≤ n2 ∧ n2 ≤ 1000 ∧ m = n2 - i ∧
          env = mkE 82 [(0, vI fs s), (5, .bool true), (6, vM false l), (7, vJ false p'), (8, vJ false p2), (12, .ref 2 1 0 n2), (14, .int .i64 i)] ∧ H = [.dead, .arr 21 elJ ys, .arr 21 elJ zs]) n2
        (.keep [0, 5, 6, 7, 8, 12, 14]) (Nat.zero_le _) ⟨0, n2, ys, zs, hn2, Nat.zero_le _, hm2, rfl, rfl, rfl⟩ ?_
      clear hn1 hn2 hm1 hm2 hi h1
      rintro m env H ⟨i2, n2, ys, zs, hn2, hi2, hm2, rfl, rfl, rfl⟩ hh
      refine T_of_W (tab := tabM) (D := [26]) (tr := tr10) tabM_ok (Cx.plain_ok _ _) (by kernel_rfl) hh (fun z2 S2 Q2 hz2 hS2 hQ2 => ?_)
      cbv
      rcases h2 : z2 .lt (Int.ofNat i2) (Int.ofNat n2) with _ | _
      · cbv
        apply hQ2
        clear hQ2
        subst hp2
        cbv
        refine use_ct [] hS (Cx.plain_ok _ _) rfl (fun yl => words_ct yl false false p2 (by omega)) (may_none []) ?_
        rintro o h' ⟨rfl, rfl⟩
        cbv
        refine use_ct [] hS (Cx.plain_ok _ _) rfl (fun yl => made_ct yl fs s) (may_none []) ?_
        rintro o h' ⟨l2, hl2, rfl, rfl⟩
        obtain rfl : l2 = l := by rw [hl2, hl]
        clear hl2
        cbv
        refine tri_loop hS (Cx.plain_ok _ _) (Nat.zero_le _) (fun m env H => ∃ (i : Nat) (ys zs : List Int), i ≤ l2.length ∧ m = l2.length - i ∧
            env = mkE 82 [(5, .bool true), (6, vM false l2), (15, .bool true), (16, vM false l2), (17, .int .i64 i)] ∧ H = [.dead, .arr 21 elJ ys, .arr 21 elJ zs]) l2.length
          (.keep [5, 6, 15, 16, 17]) (Nat.zero_le _) ⟨0, ys, zs, Nat.zero_le _, rfl, rfl, rfl⟩ ?_
        clear hn2 hi2 hm2 h2
        rintro m env H ⟨i, ys, zs, hi, rfl, rfl, rfl⟩ hh
        refine T_of_W (tab := tabM) (D := [26]) (tr := tr10) tabM_ok (Cx.plain_ok _ _) (by kernel_rfl) hh (fun z3 S3 Q3 hz3 hS3 hQ3 => ?_)
        cbv
        rcases h3 : z3 .lt (Int.ofNat i) (S3 .len (Int × Int) l2) with _ | _
        · cbv
          apply hQ3
          clear hQ3
          cbv
          exact hR _ _ _ _ (.drop 0 rfl (Nat.zero_le _)) ⟨rfl, rfl⟩
        · have hlt : i < l2.length := by
            rw [hz3, hS3] at h3
            have : (i : Int) < (l2.length : Int) := of_decide_eq_true h3
            omega
          have einc : z3 .ar .add .i64 (Int.ofNat i) 1 = Int.ofNat (i + 1) := by rw [hz3]; exact rz_inc i (by omega)
          have hidx : S3 .idx (Int × Int) l2 (Int.ofNat i) := by rw [hS3]; simp [reals]; omega
          have hne' : ∀ x : Int, z3 .ne x x = false := fun x => by rw [hz3]; exact bne_self_eq_false x
          have hdrw : ∀ H, S3 .drw H := fun H => by rw [hS3]; exact ⟨rfl, by kernel_rfl⟩
          have fin : ∀ env', keepE [5, 6, 15, 16, 17] env' = mkE 82 [(5, .bool true), (6, vM false l2), (15, .bool true), (16, vM false l2), (17, .int .i64 (Int.ofNat (i + 1)))] → Q3 .norm env' [.dead, .arr 21 elJ ys, .arr 21 elJ zs] := fun env' he => by
            apply hQ3
            exact ⟨_, _, _, by omega, .keep [5, 6, 15, 16, 17], i + 1, ys, zs, hlt, rfl, he, rfl⟩
          clear hQ3 hR
          refine ⟨hdrw _, ?_⟩
          cbv
          generalize S3 .at_ (Int × Int) (0, 0) l2 (z3 .nat (Int.ofNat i)) = mv
          have heq' : ∀ x : Int, z3 .eq x x = true := fun x => by rw [hz3]; exact beq_self_eq_true x
          rw [heq', hne']
          cbv
          repeat' first
            | exact trivial
            | exact hidx
            | refine And.intro ?_ ?_
            | (rw [einc]; exact fin _ rfl)
      · have hlt : i2 < n2 := by
          rw [hz2] at h2
          have : (i2 : Int) < (n2 : Int) := of_decide_eq_true h2
          omega
        have einc : z2 .ar .add .i64 (Int.ofNat i2) 1 = Int.ofNat (i2 + 1) := by rw [hz2]; exact rz_inc i2 (by omega)
        have hixn : z2 .ixn n2 (Int.ofNat i2) := by rw [hz2]; exact ⟨Int.natCast_nonneg _, Int.ofNat_lt.2 hlt⟩
        cbv
        refine ⟨hixn, ?_⟩
        apply hQ2
        rw [einc]
        exact ⟨_, _, _, by omega, .keep [0, 5, 6, 7, 8, 12, 14], i2 + 1, n2, ys, _, by rw [hS2]; exact hn2.trans (Eq.symm List.length_set), hlt, hm2, rfl, rfl, rfl⟩
    · have hlt : i < n1 := by
        rw [hz1] at h1
        have : (i : Int) < (n1 : Int) := of_decide_eq_true h1
        omega
      have einc : z1 .ar .add .i64 (Int.ofNat i) 1 = Int.ofNat (i + 1) := by rw [hz1]; exact rz_inc i (by omega)
      have hixn : z1 .ixn n1 (Int.ofNat i) := by rw [hz1]; exact ⟨Int.natCast_nonneg _, Int.ofNat_lt.2 hlt⟩
      cbv
      refine ⟨hixn, ?_⟩
      apply hQ1
      rw [einc]
      exact ⟨_, _, _, by omega, .keep [0, 5, 6, 7, 8, 11, 12, 13], i + 1, n1, n2, p2, _, zs, hp2, by rw [hS1]; exact hn1.trans (Eq.symm List.length_set), hn2, hlt, hm1, hm2, rfl, rfl, rfl⟩
  · have hc0 : 40 < p.length := by
      rw [hz, hS] at h2
      have : (40 : Int) < (p.length : Int) := of_decide_eq_true h2
      omega
    cbv
    refine ⟨by rw [hz, hS]; exact ⟨by decide, by simp [reals]; omega⟩, ?_⟩
    have hp' : (S .cut (Int) p 0 (z .nat 40)).length ≤ 40 := by
      rw [hz, hS]; show ((p.take 40).drop 0).length ≤ 40; rw [List.drop_zero, List.length_take]; omega
    generalize S .cut (Int) p 0 (z .nat 40) = p' at hp' ⊢
    cbv
    refine ⟨false, p', rfl, by rw [hz]; show 0 + p'.length ≤ 1000000; omega, by rw [hS]; exact fun k hk => absurd hk (Nat.not_lt_zero _), ?_⟩
    have lo := order_len l 15 10 hll
    cbv
    refine use_ct [] hS (Cx.plain_ok _ _) rfl (fun yl => order17_ct yl false l 15 10 hll (by decide)) (may_none []) ?_
    rintro o h' ⟨rfl, rfl⟩
    generalize (orderR l 15 10).1 = A at lo ⊢
    generalize (orderR l 15 10).2 = e
    cbv
    refine use_ct [] hS (Cx.plain_ok _ _) rfl (fun yl => afterI_ct yl false false l p' (by omega) (by omega)) (may_none []) ?_
    rintro o h' ⟨n1, ys1, hys1, hn1, rfl, rfl⟩
    have hm1 : n1 ≤ 1000 := by rw [hn1, hys1, afterR_len]; omega
    clear hys1
    cbv
    refine use_ct [] hS (Cx.plain_ok _ _) rfl (fun yl => CT.le (do23_ct yl false false (A.map fun m => (m, [])) p' (by rw [List.length_map]; exact lo) (by omega)) ⟨LeV.macs _ _, LeV.refl _, trivial⟩) (may_none []) ?_
    rintro o h' ⟨n2, zs1, hzs1, hn2, rfl, rfl⟩
    have hm2 : n2 ≤ 1000 := by rw [hn2, hzs1, doR_len]; omega
    clear hzs1
    have ex : (S .app elJ.α (S .cut elJ.α [] 0 0) p').take (z .add 0 p'.length) = p' := by
      rw [hz, hS]
      show (([] : List Int).take 0 ++ p').take (0 + p'.length) = p'
      rw [Nat.zero_add]; exact List.take_length
    cbv
    refine tri_loop hS (Cx.plain_ok _ _) (Nat.zero_le _) (fun m env H => ∃ (i n1 n2 : Nat) (p2 ys zs : List Int), p2 = p' ∧ n1 = ys.length ∧ n2 = zs.length ∧ i ≤ n1 ∧ n1 ≤ 1000 ∧ n2 ≤ 1000 ∧ m = n1 - i ∧
        env = mkE 82 [(0, vI fs s), (5, .bool true), (6, vM false l), (7, vJ false p'), (8, vJ false p2), (11, .ref 1 1 0 n1), (12, .ref 2 1 0 n2), (13, .int .i64 i)] ∧ H = [.dead, .arr 21 elJ ys, .arr 21 elJ zs]) n1
      (.trans (.freeze 0 rfl) (.keep [0, 5, 6, 7, 8, 11, 12, 13])) (Nat.zero_le _) ⟨0, n1, n2, _, ys1, zs1, ex, hn1, hn2, Nat.zero_le _, hm1, hm2, rfl, rfl, rfl⟩ ?_
    clear ex hn1 hn2 hm1 hm2
    rintro m env H ⟨i, n1, n2, p2, ys, zs, hp2, hn1, hn2, hi, hm1, hm2, rfl, rfl, rfl⟩ hh
    refine T_of_W (tab := tabM) (D := [26]) (tr := tr10) tabM_ok (Cx.plain_ok _ _) (by kernel_rfl) hh (fun z1 S1 Q1 hz1 hS1 hQ1 => ?_)
    cbv
    rcases h1 : z1 .lt (Int.ofNat i) (Int.ofNat n1) with _ | _
    · cbv
      apply hQ1
      clear hQ1
      cbv
      refine tri_loop hS (Cx.plain_ok _ _) (Nat.zero_le _) (fun m env H => ∃ (i n2 : Nat) (ys zs : List Int), n2 = zs.length ∧ i ≤ n2 ∧ n2 ≤ 1000 ∧ m = n2 - i ∧
          env = mkE 82 [(0, vI fs s), (5, .bool true), (6, vM false l), (7, vJ false p'), (8, vJ false p2), (12, .ref 2 1 0 n2), (14, .int .i64 i)] ∧ H = [.dead, .arr 21 elJ ys, .arr 21 elJ zs]) n2
        (.keep [0, 5, 6, 7, 8, 12, 14]) (Nat.zero_le _) ⟨0, n2, ys, zs, hn2, Nat.zero_le _, hm2, rfl, rfl, rfl⟩ ?_
      clear hn1 hn2 hm1 hm2 hi h1
      rintro m env H ⟨i2, n2, ys, zs, hn2, hi2, hm2, rfl, rfl, rfl⟩ hh
      refine T_of_W (tab := tabM) (D := [26]) (tr := tr10) tabM_ok (Cx.plain_ok _ _) (by kernel_rfl) hh (fun z2 S2 Q2 hz2 hS2 hQ2 => ?_)
      cbv
      rcases h2 : z2 .lt (Int.ofNat i2) (Int.ofNat n2) with _ | _
      · cbv
        apply hQ2
        clear hQ2
        subst hp2
        cbv
        refine use_ct [] hS (Cx.plain_ok _ _) rfl (fun yl => words_ct yl false false p2 (by omega)) (may_none []) ?_
        rintro o h' ⟨rfl, rfl⟩
        cbv
        refine use_ct [] hS (Cx.plain_ok _ _) rfl (fun yl => made_ct yl fs s) (may_none []) ?_
        rintro o h' ⟨l2, hl2, rfl, rfl⟩
        obtain rfl : l2 = l := by rw [hl2, hl]
        clear hl2
        cbv
        refine tri_loop hS (Cx.plain_ok _ _) (Nat.zero_le _) (fun m env H => ∃ (i : Nat) (ys zs : List Int), i ≤ l2.length ∧ m = l2.length - i ∧
            env = mkE 82 [(5, .bool true), (6, vM false l2), (15, .bool true), (16, vM false l2), (17, .int .i64 i)] ∧ H = [.dead, .arr 21 elJ ys, .arr 21 elJ zs]) l2.length
          (.keep [5, 6, 15, 16, 17]) (Nat.zero_le _) ⟨0, ys, zs, Nat.zero_le _, rfl, rfl, rfl⟩ ?_
        clear hn2 hi2 hm2 h2
        rintro m env H ⟨i, ys, zs, hi, rfl, rfl, rfl⟩ hh
        refine T_of_W (tab := tabM) (D := [26]) (tr := tr10) tabM_ok (Cx.plain_ok _ _) (by kernel_rfl) hh (fun z3 S3 Q3 hz3 hS3 hQ3 => ?_)
        cbv
        rcases h3 : z3 .lt (Int.ofNat i) (S3 .len (Int × Int) l2) with _ | _
        · cbv
          apply hQ3
          clear hQ3
          cbv
          exact hR _ _ _ _ (.drop 0 rfl (Nat.zero_le _)) ⟨rfl, rfl⟩
        · have hlt : i < l2.length := by
            rw [hz3, hS3] at h3
            have : (i : Int) < (l2.length : Int) := of_decide_eq_true h3
            omega
          have einc : z3 .ar .add .i64 (Int.ofNat i) 1 = Int.ofNat (i + 1) := by rw [hz3]; exact rz_inc i (by omega)
          have hidx : S3 .idx (Int × Int) l2 (Int.ofNat i) := by rw [hS3]; simp [reals]; omega
          have hne' : ∀ x : Int, z3 .ne x x = false := fun x => by rw [hz3]; exact bne_self_eq_false x
          have hdrw : ∀ H, S3 .drw H := fun H => by rw [hS3]; exact ⟨rfl, by kernel_rfl⟩
          have fin : ∀ env', keepE [5, 6, 15, 16, 17] env' = mkE 82 [(5, .bool true), (6, vM false l2), (15, .bool true), (16, vM false l2), (17, .int .i64 (Int.ofNat (i + 1)))] → Q3 .norm env' [.dead, .arr 21 elJ ys, .arr 21 elJ zs] := fun env' he => by
            apply hQ3
            exact ⟨_, _, _, by omega, .keep [5, 6, 15, 16, 17], i + 1, ys, zs, hlt, rfl, he, rfl⟩
          clear hQ3 hR
          refine ⟨hdrw _, ?_⟩
          cbv
          generalize S3 .at_ (Int × Int) (0, 0) l2 (z3 .nat (Int.ofNat i)) = mv
          have heq' : ∀ x : Int, z3 .eq x x = true := fun x => by rw [hz3]; exact beq_self_eq_true x
          rw [heq', hne']
          cbv
          repeat' first
            | exact trivial
            | exact hidx
            | refine And.intro ?_ ?_
            | (rw [einc]; exact fin _ rfl)
      · have hlt : i2 < n2 := by
          rw [hz2] at h2
          have : (i2 : Int) < (n2 : Int) := of_decide_eq_true h2
          omega
        have einc : z2 .ar .add .i64 (Int.ofNat i2) 1 = Int.ofNat (i2 + 1) := by rw [hz2]; exact rz_inc i2 (by omega)
        have hixn : z2 .ixn n2 (Int.ofNat i2) := by rw [hz2]; exact ⟨Int.natCast_nonneg _, Int.ofNat_lt.2 hlt⟩
        cbv
        refine ⟨hixn, ?_⟩
        apply hQ2
        rw [einc]
        exact ⟨_, _, _, by omega, .keep [0, 5, 6, 7, 8, 12, 14], i2 + 1, n2, ys, _, by rw [hS2]; exact hn2.trans (Eq.symm List.length_set), hlt, hm2, rfl, rfl, rfl⟩
    · have hlt : i < n1 := by
        rw [hz1] at h1
        have : (i : Int) < (n1 : Int) := of_decide_eq_true h1
        omega
      have einc : z1 .ar .add .i64 (Int.ofNat i) 1 = Int.ofNat (i + 1) := by rw [hz1]; exact rz_inc i (by omega)
      have hixn : z1 .ixn n1 (Int.ofNat i) := by rw [hz1]; exact ⟨Int.natCast_nonneg _, Int.ofNat_lt.2 hlt⟩
      cbv
      refine ⟨hixn, ?_⟩
      apply hQ1
      rw [einc]
      exact ⟨_, _, _, by omega, .keep [0, 5, 6, 7, 8, 11, 12, 13], i + 1, n1, n2, p2, _, zs, hp2, by rw [hS1]; exact hn1.trans (Eq.symm List.length_set), hn2, hlt, hm1, hm2, rfl, rfl, rfl⟩
end Go.Ab
