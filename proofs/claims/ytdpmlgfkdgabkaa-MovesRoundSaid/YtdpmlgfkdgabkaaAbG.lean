/- Contracts of the program's functions over an abstract state, and what they rest on: part AbG. No condition. -/
import Derived.Test.YtdpmlgfkdgabkaaAbF
set_option linter.unusedVariables false
set_option linter.unusedSimpArgs false

/- The reference: Order. -/
namespace Go.Ab
open Go.Proofs

def tr28 : Nat → DT := fun _ => (.take 0 (.take 1 (.take 2 (.take 3 (.take 5 (.take 6 (.take 7 (.take 8 (.alt 4 (.alt 9 (.take 10 .done) .stop) (.alt 9 (.alt 4 (.take 10 .done) .stop) .stop))))))))))

set_option maxHeartbeats 4000000 in
theorem order28_ct (yl : Nat) (fl : Bool) (l : List Move) (sc sp : Int) (hl : l.length ≤ 24) (h4 : -9223372036854775808 ≤ sp) :
    CT Try.prog (Cx.plain yl) noAr 28 [vM fl l, .int .i64 sc, .int .i64 sp] [] (fun o H => o = .ret (.agg [vK false (orderR l sc sp).1, .int .i64 (orderR l sc sp).2]) ∧ H = []) := by
  refine CT_of_W (tab := tabM) (D := []) (tr := tr28) Try.func28 (by kernel_rfl) rfl tabM_ok (Cx.plain_ok _ _) (by kernel_rfl) (fun z S R hz hS hR => ?_)
  cbv
  refine use_ct [] hS (Cx.plain_ok _ _) rfl (fun yl => wrong_ct yl fl l sc sp (by omega) h4) (may_none []) ?_
  rintro o h' ⟨rfl, rfl⟩
  generalize hw : wrongR l sc sp = e
  cbv
  rcases h5 : z .ne e 0 with _ | _
  · have he : e = 0 := by
      rw [hz] at h5
      have h5' : (e != 0) = false := h5
      simpa using h5'
    subst he
    cbv
    refine tri_loop hS (Cx.plain_ok _ _) (Nat.zero_le _) (fun m env H => ∃ (i n : Nat) (ys : List Move), i ≤ l.length ∧ m = l.length - i ∧ ys = (l.take i).filter (fun m => m.1 != m.2) ∧ n = ys.length ∧
        env = mkE 125 [(0, vM fl l), (1, .int .i64 sc), (2, .int .i64 sp), (6, .ptr 0 0), (8, .ptr 1 0), (9, .ref 2 2 0 n), (10, .int .i64 i)] ∧
        H = [.cells [vK false [], .int .i64 0], .cells [.nils, .int .i64 sc, .int .i64 sp, .int .i64 0], .arr 31 elM ys]) l.length
      (.trans (.keep [0, 1, 2, 6, 8, 9, 10]) (.own 9 31 elM_ok rfl)) (Nat.zero_le _) ⟨0, 0, [], Nat.zero_le _, rfl, rfl, rfl, rfl, rfl⟩ ?_
    rintro m env H ⟨i, n, ys, hi, rfl, hys, hn, rfl, rfl⟩ hh
    have hny : n ≤ l.length := by
      rw [hn, hys]
      exact Nat.le_trans (List.length_filter_le _ _) (by rw [List.length_take]; omega)
    refine T_of_W (tab := tabM) (D := []) (tr := tr28) tabM_ok (Cx.plain_ok _ _) (by kernel_rfl) hh (fun z' S' Q' hz' hS' hQ => ?_)
    cbv
    rcases h6 : z' .lt (Int.ofNat i) (S' .len (Int × Int) l) with _ | _
    · cbv
      apply hQ
      clear hQ
      have e : l.take i = l := by
        rw [hz', hS'] at h6
        have h6' : ¬ (i : Int) < (l.length : Int) := of_decide_eq_false h6
        exact List.take_of_length_le (by omega)
      rw [e] at hys
      have hy0 : ys.take n = realM l := by rw [hn, List.take_length, hys]; rfl
      have hwz := wrong_zero hw
      have hbad := hwz.1
      have hsc := hwz.2.2.1
      have hsp := hwz.2.2.2.2.1
      clear hwz
      have hpl : ∀ q ∈ l, (0 ≤ q.1 ∧ q.1 < 16400) ∧ (0 ≤ q.2 ∧ q.2 < 16400) := fun q hq => by
        have := List.any_eq_false.1 hbad q hq
        simp [badR, placeR] at this
        omega
      cbv
      refine tri_loop hS (Cx.plain_ok _ _) (Nat.zero_le _) (fun m env H => ∃ (l2 : List Move) (n : Nat) (out : List Mac) (err : Int), m = l2.length ∧ l2.length ≤ 24 ∧ out.length = n ∧ n + 200 * l2.length ≤ 4800 ∧ (∀ q ∈ l2, q ∈ l) ∧
          loopR sc sp l2.length l2 (out, err) = loopR sc sp (realM l).length (realM l) ([], 0) ∧ env = mkE 125 [(6, .ptr 0 0), (8, .ptr 1 0), (9, vM false l2)] ∧
          H = [.cells [vK false [], .int .i64 0], .cells [.ref 2 8 0 n, .int .i64 sc, .int .i64 sp, .int .i64 err], .arr 39 elK out]) (ys.take n).length
        (.trans (.keep [6, 8, 9]) (.trans (.freeze 2 rfl) (.trans (.drop 2 rfl (Nat.zero_le _)) (.ownCell 1 0 39 elK_ok rfl rfl)))) (Nat.zero_le _)
        ⟨ys.take n, 0, [], 0, rfl, by rw [List.length_take]; omega, rfl, by rw [List.length_take]; omega, fun q hq => by rw [hy0] at hq; exact (List.mem_filter.1 hq).1, by rw [hy0], rfl, rfl⟩ ?_
      rintro m env H ⟨l2, n2, out, err, rfl, hl2, ho2, hn2, hsub, hloop, rfl, rfl⟩ hh2
      refine T_of_W (tab := tabM) (D := []) (tr := tr28) tabM_ok (Cx.plain_ok _ _) (by kernel_rfl) hh2 (fun z2 S2 Q2 hz2 hS2 hQ2 => ?_)
      have fin : loopR sc sp l2.length l2 (out, err) = (out, err) → orderR l sc sp = if err ≠ 0 then ([], err) else (out, 0) := fun h => by
        rw [hloop] at h
        simp only [orderR, hw, h]
        rfl
      cbv
      rcases h8 : z2 .lt 0 (S2 .len (Int × Int) l2) with _ | _
      · have h8' : l2.length = 0 := by
          rw [hz2, hS2] at h8
          have : ¬ (0 : Int) < (l2.length : Int) := of_decide_eq_false h8
          omega
        cbv
        apply hQ2
        cbv
        rcases h9 : z .ne err 0 with _ | _
        · have h9' : err = 0 := by
            rw [hz] at h9
            have : (err != 0) = false := h9
            simpa using this
          have ho := fin (loopR_end (.inl h8'))
          rw [if_neg (by simp [h9'])] at ho
          cbv
          refine hR _ _ _ _ (.trans (.freeze 2 rfl) (.drop 0 rfl (Nat.zero_le _))) ⟨?_, rfl⟩
          rw [ho]
          show Out.ret (V.agg [vK false (out.take n2), .int .i64 0]) = _
          rw [← ho2, List.take_length]
        · have h9' : err ≠ 0 := by
            rw [hz] at h9
            have : (err != 0) = true := h9
            simpa using this
          have ho := fin (loopR_end (.inl h8'))
          rw [if_pos h9'] at ho
          cbv
          refine hR _ _ _ _ (.drop 0 rfl (Nat.zero_le _)) ⟨?_, rfl⟩
          rw [ho]
          rfl
      · have h8' : l2.length ≠ 0 := by
          rw [hz2, hS2] at h8
          have : (0 : Int) < (l2.length : Int) := of_decide_eq_true h8
          omega
        cbv
        rcases h10 : z2 .eq err 0 with _ | _
        · have h10' : err ≠ 0 := by
            rw [hz2] at h10
            have : (err == 0) = false := h10
            simpa using this
          cbv
          apply hQ2
          cbv
          rcases h9 : z .ne err 0 with _ | _
          · have h9' : err = 0 := by
              rw [hz] at h9
              have : (err != 0) = false := h9
              simpa using this
            exact absurd h9' h10'
          · have h9' : err ≠ 0 := h10'
            have ho := fin (loopR_end (.inr h9'))
            rw [if_pos h9'] at ho
            cbv
            refine hR _ _ _ _ (.drop 0 rfl (Nat.zero_le _)) ⟨?_, rfl⟩
            rw [ho]
            rfl
        · have h10' : err = 0 := by
            rw [hz2] at h10
            have : (err == 0) = true := h10
            simpa using this
          have hstep := loopR_step (sc := sc) (sp := sp) (s := (out, err)) h8' h10'
          cbv
          refine use_ct [] hS2 (Cx.plain_ok _ _) rfl (fun yl => free_ct yl false l2 (by omega)) (may_none []) ?_
          rintro o h' ⟨rfl, rfl⟩
          generalize hx : freeR l2 = x at hstep
          have hplace : ∀ q ∈ l2, (0 ≤ q.1 ∧ q.1 < 16400) ∧ (0 ≤ q.2 ∧ q.2 < 16400) := fun q hq => hpl q (hsub q hq)
          cbv
          rcases h11 : z2 .le 0 x with _ | _
          · have h11' : ¬ 0 ≤ x := by rw [hz2] at h11; exact of_decide_eq_false h11
            rw [if_neg h11'] at hstep
            have hltc := step_circle_lt h8'
            cbv
            refine ⟨by rw [hS2]; simp [reals]; omega, ?_⟩
            have emin : l2.foldl (fun b m => min b m.1) (l2.getD 0 (0, 0)).1 = minTo l2 := rfl
            obtain ⟨b0, hb0⟩ : ∃ b, b = (l2.getD 0 (0, 0)).1 := ⟨_, rfl⟩
            rw [← hb0] at emin
            refine tri_loop hS2 (Cx.plain_ok _ _) (Nat.zero_le _) (fun m env H => ∃ (i : Nat) (b : Int), i ≤ l2.length ∧ m = l2.length - i ∧ b = (l2.take i).foldl (fun b m => min b m.1) b0 ∧
                env = mkE 125 [(6, .ptr 0 0), (8, .ptr 1 0), (9, vM false l2), (12, .int .i64 b), (13, .int .i64 i)] ∧
                H = [.cells [vK false [], .int .i64 0], .cells [.ref 2 8 0 n2, .int .i64 sc, .int .i64 sp, .int .i64 err], .arr 39 elK out]) l2.length
              (.keep [6, 8, 9, 12, 13]) (Nat.zero_le _) ⟨0, b0, Nat.zero_le _, rfl, rfl, by subst hb0 hz2 hS2; rfl, rfl⟩ ?_
            rintro m env H ⟨i, b, hi, rfl, hb, rfl, rfl⟩ hh3
            refine T_of_W (tab := tabM) (D := []) (tr := tr28) tabM_ok (Cx.plain_ok _ _) (by kernel_rfl) hh3 (fun z3 S3 Q3 hz3 hS3 hQ3 => ?_)
            cbv
            rcases h12 : z3 .lt (Int.ofNat i) (S3 .len (Int × Int) l2) with _ | _
            · have e : l2.take i = l2 := by
                rw [hz3, hS3] at h12
                have h12' : ¬ (i : Int) < (l2.length : Int) := of_decide_eq_false h12
                exact List.take_of_length_le (by omega)
              rw [e, emin] at hb
              have hmin : -1000000 ≤ minTo l2 ∧ minTo l2 ≤ 100000 := by
                obtain ⟨m, hm, e⟩ := minTo_mem (l := l2) (fun e => h8' (by rw [e]; rfl))
                have := hplace m hm
                omega
              generalize minTo l2 = xm at hb hmin hstep hltc
              subst hb
              cbv
              apply hQ3
              clear hQ3
              cbv
              refine use_ct [] hS2 (Cx.plain_ok _ _) rfl (fun yl => circle_ct yl false l2 b (by omega)) (may_none []) ?_
              rintro o h' ⟨rfl, rfl⟩
              have hc1 := circle_len l2 b
              have hc0 : 1 ≤ (circleR l2 b).length := by
                obtain ⟨r, hr⟩ := circle_head l2 b
                rw [hr]; simp
              have hcb : ∀ p ∈ circleR l2 b, -1000000 ≤ p ∧ p ≤ 100000 := fun p hp => by
                rcases circ_mem l2 b p hp with e | ⟨m, hm, e⟩
                · rw [e]; exact hmin
                · have := hplace m hm
                  omega
              generalize circleR l2 b = c at hstep hltc hc1 hc0 hcb
              cbv
              refine use_ct [1, 2] hS2 (Cx.plain_ok _ _) rfl (fun yl => round_ct yl false n2 sc sp err out c ho2.symm (by omega) hc0 (by omega) hcb (by omega) (by omega)) ?_ ?_
              · exact fun k hk => absurd hk (Nat.not_lt_zero _)
              rintro o h' ⟨rfl, rfl⟩
              have hlen1 := roundR_len sc sp (out, err) c
              generalize roundR sc sp (out, err) c = s1 at hstep hlen1
              obtain ⟨o1, e1⟩ := s1
              have hlen1' : o1.length ≤ n2 + 4 * (c.length + 2) := by rw [← ho2]; exact hlen1
              generalize hn1 : o1.length = n1 at hlen1'
              cbv
              refine tri_loop hS2 (Cx.plain_ok _ _) (Nat.zero_le _) (fun m env H => ∃ (i : Nat) (l3 : List Move), i ≤ c.length ∧ m = c.length - i ∧ l3 = dropAll l2 (c.take i) ∧
                  env = mkE 125 [(6, .ptr 0 0), (8, .ptr 1 0), (9, vM false l3), (14, vI false c), (15, .int .i64 i)] ∧
                  H = [.cells [vK false [], .int .i64 0], .cells [.ref 2 8 0 n1, .int .i64 sc, .int .i64 sp, .int .i64 e1], .arr 39 elK o1]) c.length
                (.keep [6, 8, 9, 14, 15]) (Nat.zero_le _) ⟨0, l2, Nat.zero_le _, rfl, rfl, rfl, rfl⟩ ?_
              rintro m env H ⟨k, l3, hk, rfl, hl3, rfl, rfl⟩ hh4
              have hl3le : l3.length ≤ l2.length := by rw [hl3]; exact dropAll_le _ _
              refine T_of_W (tab := tabM) (D := []) (tr := tr28) tabM_ok (Cx.plain_ok _ _) (by kernel_rfl) hh4 (fun z4 S4 Q4 hz4 hS4 hQ4 => ?_)
              cbv
              rcases h13 : z4 .lt (Int.ofNat k) (S4 .len Int c) with _ | _
              · have e : c.take k = c := by
                  rw [hz4, hS4] at h13
                  have h13' : ¬ (k : Int) < (c.length : Int) := of_decide_eq_false h13
                  exact List.take_of_length_le (by omega)
                rw [e] at hl3
                cbv
                apply hQ4
                clear hQ4
                cbv
                apply hQ2
                refine ⟨_, _, _, ?_, .keep [6, 8, 9], l3, n1, o1, e1, rfl, by omega, hn1, ?_, ?_, ?_, rfl, rfl⟩
                · rw [hl3]; exact hltc
                · rw [← hl3] at hltc; omega
                · intro q hq
                  rw [hl3] at hq
                  exact hsub q (dropAll_sub _ _ q hq)
                · rw [hl3, ← hstep, hloop]
              · have hlt : k < c.length := by
                  rw [hz4, hS4] at h13
                  have h13' : (k : Int) < (c.length : Int) := of_decide_eq_true h13
                  omega
                have einc : z4 .ar .add .i64 (Int.ofNat k) 1 = Int.ofNat (k + 1) := by rw [hz4]; exact rz_inc k (by omega)
                have eat : S4 .at_ Int 0 c (z4 .nat (Int.ofNat k)) = c.getD k 0 := by rw [hS4, hz4]; rfl
                cbv
                refine ⟨by rw [hS4]; simp [reals]; omega, ?_⟩
                rw [eat]
                refine use_ct [] hS4 (Cx.plain_ok _ _) rfl (fun yl => without_ct yl false l3 (c.getD k 0) (by omega)) (may_none []) ?_
                rintro o h' ⟨rfl, rfl⟩
                have hl4 : l3.filter (fun m => m.1 != c.getD k 0) = dropAll l2 (c.take (k + 1)) := by rw [dropAll_take l2 c hlt, hl3]
                generalize l3.filter (fun m => m.1 != c.getD k 0) = l4 at hl4
                cbv
                apply hQ4
                rw [einc]
                exact ⟨_, _, _, by omega, .keep [6, 8, 9, 14, 15], k + 1, l4, hlt, rfl, hl4, rfl, rfl⟩
            · have hlt : i < l2.length := by
                rw [hz3, hS3] at h12
                have h12' : (i : Int) < (l2.length : Int) := of_decide_eq_true h12
                omega
              have einc : z3 .ar .add .i64 (Int.ofNat i) 1 = Int.ofNat (i + 1) := by rw [hz3]; exact rz_inc i (by omega)
              have hst := fold_take (fun b (m : Move) => min b m.1) b0 l2 (0, 0) hlt
              have eat : S3 .at_ (Int × Int) (0, 0) l2 (z3 .nat (Int.ofNat i)) = l2.getD i (0, 0) := by rw [hS3, hz3]; rfl
              cbv
              refine ⟨by rw [hS3]; simp [reals]; omega, ?_⟩
              rw [eat]
              generalize l2.getD i (0, 0) = mi at hst ⊢
              obtain ⟨m1, m2⟩ := mi
              cbv
              rcases h13 : z3 .lt m1 b with _ | _
              · have h13' : ¬ m1 < b := by rw [hz3] at h13; exact of_decide_eq_false h13
                cbv
                apply hQ3
                rw [einc]
                exact ⟨_, _, _, by omega, .keep [6, 8, 9, 12, 13], i + 1, b, hlt, rfl, by rw [hst, ← hb]; exact (Int.min_eq_left (by omega)).symm, rfl, rfl⟩
              · have h13' : m1 < b := by rw [hz3] at h13; exact of_decide_eq_true h13
                cbv
                apply hQ3
                rw [einc]
                exact ⟨_, _, _, by omega, .keep [6, 8, 9, 12, 13], i + 1, m1, hlt, rfl, by rw [hst, ← hb]; exact (Int.min_eq_right (by omega)).symm, rfl, rfl⟩
          · cbv
            refine use_ct [] hS2 (Cx.plain_ok _ _) rfl (fun yl => source_ct yl false l2 x (by omega)) (may_none []) ?_
            rintro o h' ⟨rfl, rfl⟩
            have h11' : 0 ≤ x := by rw [hz2] at h11; exact of_decide_eq_true h11
            have hsb := sourceR_mem l2 x
            have hxm := freeR_mem (l := l2) (by rw [hx]; exact h11')
            generalize hsrc : sourceR l2 x = src at hstep hsb
            have hxb : -1000000 ≤ x ∧ x ≤ 100000 := by
              obtain ⟨m, hm, e⟩ := hxm
              have := hplace m hm
              rw [hx] at e
              omega
            have hsb' : -1000000 ≤ src ∧ src ≤ 100000 := by
              rcases hsb with e | ⟨m, hm, e⟩
              · omega
              · have := hplace m hm
                omega
            cbv
            refine use_ct [1, 2] hS2 (Cx.plain_ok _ _) rfl (fun yl => bring_ct yl n2 sc sp err x src out ho2.symm (by omega) hxb hsb' (by omega) (by omega)) ?_ ?_
            · exact fun k hk => absurd hk (Nat.not_lt_zero _)
            rintro o h' ⟨rfl, rfl⟩
            have hlen1 := bringR_len sc sp (out, err) x src
            have hlt := step_free_lt (l := l2) (by rw [hx]; exact h11')
            rw [if_pos h11'] at hstep
            rw [hx] at hlt
            generalize bringR sc sp (out, err) x src = s1 at hstep hlen1
            obtain ⟨o1, e1⟩ := s1
            have hlen1' : o1.length ≤ n2 + 4 := by rw [← ho2]; exact hlen1
            generalize hn1 : o1.length = n1 at hlen1'
            cbv
            refine use_ct [] hS2 (Cx.plain_ok _ _) rfl (fun yl => without_ct yl false l2 x (by omega)) (may_none []) ?_
            rintro o h' ⟨rfl, rfl⟩
            have hsub' : ∀ q ∈ l2.filter (fun m => m.1 != x), q ∈ l := fun q hq => hsub q (List.mem_filter.1 hq).1
            generalize l2.filter (fun m => m.1 != x) = l3 at hstep hlt hsub'
            cbv
            apply hQ2
            exact ⟨_, _, _, hlt, .keep [6, 8, 9], l3, n1, o1, e1, rfl, by omega, hn1, by omega, hsub', by rw [← hstep, hloop], rfl, rfl⟩
    · have hlt : i < l.length := by
        rw [hz', hS'] at h6
        have h6' : (i : Int) < (l.length : Int) := of_decide_eq_true h6
        omega
      have hst := filter_step hlt (fun m => m.1 != m.2)
      have einc : z' .ar .add .i64 (Int.ofNat i) 1 = Int.ofNat (i + 1) := by rw [hz']; exact rz_inc i (by omega)
      cbv
      have hidx : S' .idx (Int × Int) l (Int.ofNat i) := by rw [hS']; simp [reals]; omega
      refine ⟨by rw [hS']; exact ⟨rfl, by kernel_rfl⟩, hidx, hidx, ?_⟩
      rcases h7 : z' .ne (S' .at_ (Int × Int) (0, 0) l (z' .nat (Int.ofNat i))).1 (S' .at_ (Int × Int) (0, 0) l (z' .nat (Int.ofNat i))).2 with _ | _
      · have h7' : ((l.getD i (0, 0)).1 != (l.getD i (0, 0)).2) = false := by rw [hz', hS'] at h7; exact h7
        cbv
        refine ⟨⟨?_, trivial⟩, ⟨?_, trivial⟩, trivial⟩ <;>
        · apply hQ
          rw [einc]
          exact ⟨_, _, _, by omega, .keep [0, 1, 2, 6, 8, 9, 10], i + 1, n, ys, hlt, rfl, by rw [hst, h7', hys]; simp, hn, rfl, rfl⟩
      · have h7' : ((l.getD i (0, 0)).1 != (l.getD i (0, 0)).2) = true := by rw [hz', hS'] at h7; exact h7
        cbv
        have hbd : z' .bd n 1 := by rw [hz']; show n + 1 ≤ 1000000; omega
        have hmv : ∀ H, S' .mv 2 H := fun H => by rw [hS']; exact fun k hk => absurd hk (Nat.not_lt_zero _)
        rw [einc]
        refine ⟨⟨⟨hidx, hbd, hmv _, ?_⟩, trivial⟩, ⟨⟨hidx, hbd, hmv _, ?_⟩, trivial⟩, trivial⟩ <;>
        · apply hQ
          subst hz' hS'
          refine ⟨_, _, _, by omega, .keep [0, 1, 2, 6, 8, 9, 10], i + 1, n + 1, ys ++ [l.getD i (0, 0)], hlt, rfl, by rw [hst, h7', hys]; simp, by simp [hn], rfl, ?_⟩
          show [Blk.cells [vK false [], .int .i64 0], .cells [.nils, .int .i64 sc, .int .i64 sp, .int .i64 0], .arr 31 elM ((ys.take n).drop 0 ++ [l.getD i (0, 0)])] = [Blk.cells [vK false [], .int .i64 0], .cells [.nils, .int .i64 sc, .int .i64 sp, .int .i64 0], .arr 31 elM (ys ++ [l.getD i (0, 0)])]
          rw [hn, List.take_length]; rfl
  · have he : e ≠ 0 := by
      rw [hz] at h5
      have h5' : (e != 0) = true := h5
      simpa using h5'
    cbv
    refine hR _ _ _ _ (.drop 0 rfl (Nat.zero_le _)) ⟨?_, rfl⟩
    have ho : orderR l sc sp = ([], e) := by simp [orderR, hw, he]
    rw [ho]
    rfl
end Go.Ab
