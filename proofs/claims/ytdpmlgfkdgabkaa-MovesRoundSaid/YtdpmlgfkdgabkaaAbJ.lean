/- Contracts of the program's functions over an abstract state, and what they rest on: part AbJ. No condition. -/
import Derived.Test.YtdpmlgfkdgabkaaAbI
set_option linter.unusedVariables false
set_option linter.unusedSimpArgs false

/- The program: Order. -/
namespace Go.Ab
open Go.Proofs

def keyM (m : Mp) (es : List (m.κ × m.β)) (i : Nat) : m.κ := match es[i]? with | some p => p.1 | none => m.kdec .und
def keyAt (m : List (Int × Int)) (i : Nat) : Int := keyM mII m i

theorem keyM_get (m : Mp) (es : List (m.κ × m.β)) {i : Nat} (h : i < es.length) : keyM m es i = es[i].1 := by
  simp [keyM, List.getElem?_eq_getElem h]

theorem keyM_real {P : Program} {cx : Cx} {rnd : Option Nat} {n0 : Lim} (m : Mp) (es : List (m.κ × m.β)) (i : Nat) : reals P cx rnd n0 .mkey m es i = keyM m es i := by
  simp only [reals, keyM]
  cases es[i]? <;> rfl

theorem keyAt_range : ∀ m : List (Int × Int), (List.range m.length).map (keyAt m) = m.map (·.1) := fun m => by
  apply List.ext_getElem
  · simp
  · intro i h1 h2
    simp at h1
    have := keyM_get mII m h1
    simp only [List.getElem_map, List.getElem_range]
    exact this

set_option maxHeartbeats 4000000 in
theorem order17_ct (yl : Nat) (fl : Bool) (l : List Move) (sc sp : Int) (hl : l.length ≤ 24) (h4 : -9223372036854775808 ≤ sp) :
    CT Try.prog (Cx.plain yl) noAr 17 [vM fl l, .int .i64 sc, .int .i64 sp] [] (fun o H => o = .ret (.tuple [vK false (orderR l sc sp).1, .int .i64 (orderR l sc sp).2]) ∧ H = []) := by
  refine CT_of_W (tab := tabM) (D := []) (tr := noTr) Try.func17 (by kernel_rfl) rfl tabM_ok (Cx.plain_ok _ _) (by kernel_rfl) (fun z S R hz hS hR => ?_)
  cbv
  refine use_ct [] hS (Cx.plain_ok _ _) rfl (fun yl => wrongI_ct yl fl l sc sp (by omega) h4) (may_none []) ?_
  rintro o h' ⟨e, hw, rfl, rfl⟩
  cbv
  rcases h5 : z .ne e 0 with _ | _
  · have he : e = 0 := by
      rw [hz] at h5
      have h5' : (e != 0) = false := h5
      simpa using h5'
    subst he
    have hw0 := hw.symm
    have hwz := wrong_zero hw0
    have hbad := hwz.1
    have hdup := hwz.2.1
    have hsc := hwz.2.2.1
    have hsp := hwz.2.2.2.2.1
    clear hwz
    have hpl : ∀ q ∈ l, (0 ≤ q.1 ∧ q.1 < 16400) ∧ (0 ≤ q.2 ∧ q.2 < 16400) := fun q hq => by
      have := List.any_eq_false.1 hbad q hq
      simp [badR, placeR] at this
      omega
    have hnd := dup_nodup l hdup
    clear hbad
    cbv
    refine tri_loop hS (Cx.plain_ok _ _) (Nat.zero_le _) (fun m env H => ∃ (i n : Nat) (mm u : List (Int × Int)), n = l.length ∧ i ≤ l.length ∧ m = l.length - i ∧ Built (l.take i) mm u ∧
        env = mkE 120 [(9, .ptr 0 0), (10, .ptr 2 0), (11, .ptr 4 0), (34, vM fl l), (35, .int .i64 n), (36, .int .i64 i)] ∧
        H = [.cells [.nils, .int .i64 sc, .int .i64 sp, .bool false], .map mII mm, .cells [.mp 1], .map mII u, .cells [.mp 3]]) l.length
      (.keep [9, 10, 11, 34, 35, 36]) (Nat.zero_le _) ⟨0, l.length, [], [], rfl, Nat.zero_le _, rfl, Built.nil, by subst hS; rfl, rfl⟩ ?_
    rintro m env H ⟨i, n, mm, u, hn, hi, rfl, hbt, rfl, rfl⟩ hh
    refine T_of_W (tab := tabM) (D := []) (tr := noTr) tabM_ok (Cx.plain_ok _ _) (by kernel_rfl) hh (fun z' S' Q' hz' hS' hQ => ?_)
    cbv
    rcases h6 : z' .lt (Int.ofNat i) (Int.ofNat n) with _ | _
    · have ei : i = l.length := by
        rw [hz'] at h6
        have h6' : ¬ (i : Int) < (n : Int) := of_decide_eq_false h6
        omega
      rw [ei, List.take_length] at hbt
      cbv
      apply hQ
      clear hQ
      cbv
      have hmle : mm.length ≤ 24 := by
        have := nodup_len hbt.knd (b := (realM l).map (·.1)) (fun x hx => by obtain ⟨q, hq, e⟩ := (hbt.keys x).1 hx; exact List.mem_map.2 ⟨q, hq, e⟩)
        have h2 := List.length_filter_le (fun q : Move => q.1 != q.2) l
        simp [realM] at this
        omega
      refine tri_loop hS (Cx.plain_ok _ _) (Nat.zero_le _) (fun m env H => ∃ (rem : List Nat) (ks : List Int) (n : Nat) (cur : Option Nat), m = rem.length ∧ n = ks.length ∧ (ks ++ rem.map (keyAt mm)).Perm (mm.map (·.1)) ∧
          env = mkE 120 [(9, .ptr 0 0), (10, .ptr 2 0), (11, .ptr 4 0), (14, .ptr 5 0), (57, .itr 6)] ∧
          H = [.cells [.nils, .int .i64 sc, .int .i64 sp, .bool false], .map mII mm, .cells [.mp 1], .map mII u, .cells [.mp 3], .cells [.ref 7 1 0 n], .iter 1 mII mm rem cur, .arr 3 elI ks]) mm.length
        (.trans (.keep [9, 10, 11, 14, 57]) (.ownCell 5 0 3 elI_ok rfl rfl)) (Nat.zero_le _) ⟨List.range mm.length, [], 0, none, by simp, rfl, by rw [keyAt_range]; exact List.Perm.refl _, rfl, by subst hz; rfl⟩ ?_
      rintro m env H ⟨rem, ks, n2, cur, rfl, hn2, hperm, rfl, rfl⟩ hh2
      have hkl : ks.length + rem.length = mm.length := by
        have := hperm.length_eq
        simpa using this
      refine T_of_W (tab := tabM) (D := []) (tr := noTr) tabM_ok (Cx.plain_ok _ _) (by kernel_rfl) hh2 (fun z2 S2 Q2 hz2 hS2 hQ2 => ?_)
      cbv
      refine ⟨⟨rfl, rfl⟩, fun hrem => ?_, fun i2 hi2 => ?_⟩
      · subst hrem
        rw [List.map_nil, List.append_nil] at hperm
        cbv
        apply hQ2
        clear hQ2
        cbv
        refine use_ct [7] hS (Cx.plain_ok _ _) rfl (fun yl => sort_ct yl n2 ks hn2 (by omega)) (may_none [7]) ?_
        rintro o h' ⟨ys, hys, rfl, rfl⟩
        have hrel0 := hbt.rel hdup hpl hperm
        rw [← hys] at hrel0
        have hyl : n2 = ys.length := by rw [hn2, hys, sortI_len]
        have hrl0 : (realM l).length ≤ 24 := by
          have h2 := List.length_filter_le (fun q : Move => q.1 != q.2) l
          exact Nat.le_trans h2 hl
        have hplr : ∀ q ∈ realM l, (0 ≤ q.1 ∧ q.1 < 16400) ∧ (0 ≤ q.2 ∧ q.2 < 16400) := fun q hq => hpl q (List.mem_filter.1 hq).1
        clear hh hh2 hperm hkl
        cbv
        refine tri_loop hS (Cx.plain_ok _ _) (Nat.zero_le _) (fun m env H => ∃ (l2 : List Move) (n no : Nat) (xs : List Int) (uu : List (Int × Int)) (out : List Mac) (lk : Bool) (oR : List Mac) (err : Int), m = l2.length ∧ l2.length ≤ 24 ∧ n ≤ xs.length ∧ Rel l2 (xs.take n) uu mm ∧
            no = out.length ∧ no + 200 * l2.length ≤ 4800 ∧ EqL (oR, err) (out, lk) ∧ loopR sc sp l2.length l2 (oR, err) = loopR sc sp (realM l).length (realM l) ([], 0) ∧
            env = mkE 120 [(9, .ptr 0 0), (10, .ptr 2 0), (11, .ptr 4 0), (14, .ptr 5 0), (16, .ptr 8 0)] ∧
            H = [.cells [.ref 9 8 0 no, .int .i64 sc, .int .i64 sp, .bool lk], .map mII mm, .cells [.mp 1], .map mII uu, .cells [.mp 3], .cells [.ref 7 1 0 n], .dead, .arr 3 elI xs, .cells [.fn 32 [] [.ptr 4 0, .ptr 2 0, .ptr 5 0]], .arr 39 elK out]) (realM l).length
          (.trans (.keep [9, 10, 11, 14, 16]) (.trans (.dead 6) (.ownCell 0 0 39 elK_ok rfl rfl))) (Nat.zero_le _)
          ⟨realM l, n2, 0, ys, u, [], false, [], 0, rfl, hrl0, by omega, by rw [hyl, List.take_length]; exact hrel0, rfl, by omega, .inl ⟨rfl, rfl, rfl⟩, rfl, rfl, rfl⟩ ?_
        rintro m env H ⟨l2, n, no, xs, uu, out, lk, oR, err, rfl, hl2, hnx, hrel, hno, hno2, heq, hloop, rfl, rfl⟩ hh3
        refine T_of_W (tab := tabM) (D := []) (tr := noTr) tabM_ok (Cx.plain_ok _ _) (by kernel_rfl) hh3 (fun z3 S3 Q3 hz3 hS3 hQ3 => ?_)
        have hlen := hrel.left_len
        rw [List.length_take, Nat.min_eq_left hnx] at hlen
        have fin : l2.length = 0 ∨ err ≠ 0 → orderR l sc sp = if err ≠ 0 then ([], err) else (oR, 0) := fun h => by
          have h2 := loopR_end (sc := sc) (sp := sp) (s := (oR, err)) h
          rw [hloop] at h2
          simp only [orderR, hw0, h2]
          rfl
        have finT : lk = true → orderR l sc sp = ([], 43) := fun h => by
          rcases heq with ⟨_, h2, _⟩ | ⟨h1, _⟩
          · rw [h] at h2; cases h2
          · have h1' : err = 43 := h1
            rw [fin (.inr (by rw [h1']; decide)), h1', if_pos (by decide)]
        have finF : lk = false → l2.length = 0 → orderR l sc sp = (out, 0) := fun h h0 => by
          rcases heq with ⟨h1, _, h3⟩ | ⟨_, h2⟩
          · have h1' : err = 0 := h1
            have h3' : oR = out := h3
            rw [fin (.inl h0), h1', h3', if_neg (by decide)]
          · rw [h] at h2; cases h2
        clear fin
        have outT : ∀ (rs : List V) (H : Heap), lk = true → rs = [.nils, .int .i64 43] → okDrop 0 [vK false [], .int .i64 43] H = true → R rs H := fun rs H h he hok => by
          subst he
          refine hR _ _ _ _ (.trans (.slot 0 (LeV.nils Mac ⟨0, 0, 0, 0, 0, 0, 0⟩ 8 encK false)) (.drop 0 hok (Nat.zero_le _))) ⟨?_, ?_⟩
          · rw [finT h]; rfl
          · cases H <;> rfl
        cbv
        rcases h8 : z3 .lt 0 (Int.ofNat n) with _ | _
        · have h8' : l2.length = 0 := by
            rw [hz3] at h8
            have : ¬ (0 : Int) < (n : Int) := of_decide_eq_false h8
            omega
          cbv
          apply hQ3
          cases lk with
          | true =>
            cbv
            exact outT _ _ rfl rfl rfl
          | false =>
            cbv
            refine hR _ _ _ _ (.trans (.freeze 9 rfl) (.drop 0 rfl (Nat.zero_le _))) ⟨?_, rfl⟩
            rw [finF rfl h8']
            show Out.ret (V.tuple [vK false (out.take no), .int .i64 0]) = _
            rw [hno, List.take_length]
        · have h8' : l2.length ≠ 0 := by
            rw [hz3] at h8
            have : (0 : Int) < (n : Int) := of_decide_eq_true h8
            omega
          cases lk with
          | true =>
            cbv
            apply hQ3
            cbv
            exact outT _ _ rfl rfl rfl
          | false =>
            have heq' : err = 0 ∧ oR = out := by
              rcases heq with ⟨h1, _, h3⟩ | ⟨_, h2⟩
              · exact ⟨h1, h3⟩
              · cases h2
            have hstep := loopR_step (sc := sc) (sp := sp) (s := (oR, err)) h8' heq'.1
            have hplc : ∀ q ∈ l2, (0 ≤ q.1 ∧ q.1 < 16400) ∧ (0 ≤ q.2 ∧ q.2 < 16400) := hrel.pos
            cbv
            refine use_ct [7, 4, 3] hS3 (Cx.plain_ok _ _) rfl (fun yl => index36_ct yl n xs uu hnx (by omega)) (may_none [7, 4, 3]) ?_
            rintro o h' ⟨r, hr, rfl, rfl⟩
            cbv
            have hget : ∀ j, j < n → (xs.take n).getD j 0 = xs.getD j 0 := fun j hj => by
              rw [List.getD_eq_getElem?_getD, List.getElem?_take, if_pos hj, List.getD_eq_getElem?_getD]
            have hcnt : ∀ k, -1000 ≤ getI uu k ∧ getI uu k ≤ 1000 := fun k => by
              have h1 := hrel.cnt k
              have h2 := List.length_filter_le (fun q : Move => q.2 == k) l2
              omega
            have hltn : ∀ k, z3 .ixn n (Int.ofNat k) ↔ k < n := fun k => by
              rw [hz3]
              exact ⟨fun h => Int.ofNat_lt.1 h.2, fun h => ⟨Int.natCast_nonneg _, Int.ofNat_lt.2 h⟩⟩
            rcases h9 : z3 .le 0 r with _ | _
            · have h9' : ¬ 0 ≤ r := by rw [hz3] at h9; exact of_decide_eq_false h9
              have hall : ∀ j, j < n → getI uu (xs.getD j 0) ≠ 0 := fun j hj => by
                rcases hr with ⟨_, h1⟩ | ⟨i, e, _⟩
                · exact beq_eq_false_iff_ne.1 (h1 j hj)
                · rw [e] at h9'; exact absurd (Int.natCast_nonneg i) h9'
              have htl : (xs.take n).length = n := by rw [List.length_take]; omega
              have hn0 : n ≠ 0 := by omega
              have hnof := hrel.noFree (fun j hj => by rw [htl] at hj; rw [hget j hj]; exact hall j hj)
              have hlx : (xs.take n).length ≠ 0 := by rw [htl]; exact hn0
              have hx0 : xs.getD 0 0 = (xs.take n).getD 0 0 := (hget 0 (by omega)).symm
              have hmin := hrel.least hlx
              have hltc := step_circle_lt h8'
              rw [if_neg hnof.1, hmin, ← hx0] at hstep
              rw [hmin, ← hx0] at hltc
              have eix : z3 .add 0 (z3 .nat 0) = 0 := by rw [hz3]; rfl
              have eat : S3 .at_ elI.α elI.d xs 0 = xs.getD 0 0 := by rw [hS3]; rfl
              cbv
              refine ⟨(hltn 0).2 (by omega), ?_⟩
              rw [eix, eat]
              generalize xs.getD 0 0 = x at hx0 hstep hltc ⊢
              obtain ⟨nn, hnn, hne, hend, hmemc, hcirc, hdist⟩ := hrel.circle hlx hnof.2 hx0
              rw [hcirc] at hstep hltc
              have hcb : ∀ i, i ≤ nn → -1000000 ≤ iterI mm x i ∧ iterI mm x i ≤ 100000 := fun i _ => by
                obtain ⟨q, hq, e⟩ := (hrel.mem _).1 (hmemc i)
                have := hplc q hq
                omega
              refine use_ct [0, 9, 1] hS3 (Cx.plain_ok _ _) rfl (fun yl => roundI_ct yl no sc sp false out mm x (iterI mm x) nn hno (by omega) (by omega) rfl (fun i hi => rfl) hne hend hcb (by omega) (by omega)) (fun k hk => absurd hk (Nat.not_lt_zero _)) ?_
              rintro o h' ⟨no', lk', out', hno', hro, rfl, rfl⟩
              have heq2 := heq.round sc sp (circL (iterI mm x) nn)
              rw [← hro] at heq2
              have hrl := roundI_len sc sp (out, false) (circL (iterI mm x) nn)
              rw [← hro, ← hno', ← hno] at hrl
              simp only [circL, List.length_map, List.length_range] at hrl
              generalize roundR sc sp (oR, err) (circL (iterI mm x) nn) = s1 at hstep heq2
              obtain ⟨o2, er2⟩ := s1
              cbv
              refine use_ct [1] hS3 (Cx.plain_ok _ _) rfl (fun yl => ring_ct yl mm x) (may_none [1]) ?_
              rintro o h' ⟨rfl, rfl⟩
              cbv
              have hclen : (circL (iterI mm x) nn).length = nn + 1 := by simp [circL]
              have hctk : ∀ i, i ≤ nn + 1 → (circL (iterI mm x) nn).take i = (List.range i).map (iterI mm x) := fun i hi => by
                rw [circL, ← List.map_take, List.take_range, Nat.min_eq_left hi]
              have hcget : ∀ i, i ≤ nn → (circL (iterI mm x) nn).getD i 0 = iterI mm x i := fun i hi => by
                rw [List.getD_eq_getElem?_getD, List.getElem?_eq_getElem (by omega)]
                simp [circL]
              refine tri_range noAr (fun H' => ∃ (n' : Nat) (xs' : List Int) (u' : List (Int × Int)), n' ≤ xs'.length ∧ Rel (dropAll l2 (circL (iterI mm x) nn)) (xs'.take n') u' mm ∧ H' = [.cells [.ref 9 8 0 no', .int .i64 sc, .int .i64 sp, .bool lk'], .map mII mm, .cells [.mp 1], .map mII u', .cells [.mp 3], .cells [.ref 7 1 0 n'], .dead, .arr 3 elI xs', .cells [.fn 32 [] [.ptr 4 0, .ptr 2 0, .ptr 5 0]], .arr 39 elK out', .cells [.mp 1], .cells [.int .i64 x]])
                hS3 (Cx.plain_ok _ _) (Nat.zero_le _) (fun k hk => absurd hk (Nat.not_lt_zero _)) rfl rfl rfl rfl ?_ ?_
              · intro cxl hokl hyt
                refine CT.mono (ring1_ct_12_1 cxl noAr _ x mm (iterI mm x) nn (fun i H' => ∃ (n' : Nat) (xs' : List Int) (u' : List (Int × Int)), n' ≤ xs'.length ∧ Rel (dropAll l2 ((circL (iterI mm x) nn).take i)) (xs'.take n') u' mm ∧ H' = [.cells [.ref 9 8 0 no', .int .i64 sc, .int .i64 sp, .bool lk'], .map mII mm, .cells [.mp 1], .map mII u', .cells [.mp 3], .cells [.ref 7 1 0 n'], .dead, .arr 3 elI xs', .cells [.fn 32 [] [.ptr 4 0, .ptr 2 0, .ptr 5 0]], .arr 39 elK out', .cells [.mp 1], .cells [.int .i64 x]])
                  hokl rfl (fun i hi => rfl) hne hend ⟨n, xs, uu, hnx, hrel, rfl⟩ (fun i H h => by obtain ⟨_, _, _, _, _, rfl⟩ := h; exact ⟨_, _, _, _, _, _, _, _, _, rfl⟩) (fun i H hi h => ?_)) (fun o H' h => ?_)
                · obtain ⟨n', xs', u', hnx', hrel', rfl⟩ := h
                  refine hyt _ _ _ rfl rfl (fun l => ?_)
                  have hdr := dropAll_take l2 (circL (iterI mm x) nn) (i := i) (by omega)
                  rw [hcget i hi] at hdr
                  have hmi : iterI mm x i ∈ xs'.take n' := by
                    obtain ⟨q, hq, e⟩ := (hrel.mem _).1 (hmemc i)
                    refine (hrel'.mem _).2 ⟨q, (dropAll_mem _ _ _).2 ⟨hq, ?_⟩, e⟩
                    rw [hctk i (by omega), e]
                    intro hin
                    obtain ⟨j, hj, ej⟩ := List.mem_map.1 hin
                    exact hdist j i (List.mem_range.1 hj) hi ej
                  have hst2 := hrel'.step hmi
                  rw [← hdr] at hst2
                  have hlen' : n' ≤ 24 := by
                    have h1 := hrel'.left_len
                    have h2 := dropAll_le ((circL (iterI mm x) nn).take i) l2
                    rw [List.length_take, Nat.min_eq_left hnx'] at h1
                    omega
                  have hcnt' : ∀ k, -1000 ≤ getI u' k ∧ getI u' k ≤ 1000 := fun k => by
                    have h1 := hrel'.cnt k
                    have h2 := List.length_filter_le (fun q : Move => q.2 == k) (dropAll l2 ((circL (iterI mm x) nn).take i))
                    have h3 := dropAll_le ((circL (iterI mm x) nn).take i) l2
                    omega
                  generalize iterI mm x (i + 1) = cn
                  generalize iterI mm x i = ci at hmi hst2
                  refine T_of_W (tab := tabM) (D := []) (tr := noTr) tabM_ok (Cx.plain_ok _ _) (by kernel_rfl) (Nat.le_refl _) (fun z5 S5 Q5 hz5 hS5 hQ5 => ?_)
                  cbv
                  apply hQ5
                  refine ⟨rfl, Nat.le_refl _, ?_⟩
                  refine T_of_W (tab := tabM) (D := []) (tr := noTr) tabM_ok (Cx.plain_ok _ _) (by kernel_rfl) (Nat.le_refl _) (fun z6 S6 Q6 hz6 hS6 hQ6 => ?_)
                  cbv
                  refine use_ct [4, 2, 5, 3, 1, 7] hS6 (Cx.plain_ok _ _) rfl (fun yl => gone_ct yl n' xs' mm u' ci hnx' (by omega) (hcnt' _)) (may_none [4, 2, 5, 3, 1, 7]) ?_
                  rintro o h' ⟨n'', ys', u'', hu'', hn'', htk, hlen'', rfl, rfl⟩
                  have hk1 := List.length_filter_le (fun q : Int => q != ci) (xs'.take n')
                  cbv
                  apply hQ6
                  refine ⟨rfl, Nat.le_refl _, _, _, Wk.refl _ _, n'', ys', u'', ?_, ?_, rfl⟩
                  · have h7 : (xs'.take n').length ≤ n' := by rw [List.length_take]; omega
                    have h9 : n'' ≤ xs'.length := by rw [hn'']; exact Nat.le_trans (Nat.le_trans hk1 h7) hnx'
                    exact Nat.le_trans h9 (Nat.le_of_eq hlen''.symm)
                  · rw [htk, hu'']; exact hst2
                · obtain ⟨h1', n', xs', u', hnx', hrel', rfl⟩ := h
                  rw [List.take_of_length_le (by omega)] at hrel'
                  exact ⟨h1', rfl, n', xs', u', hnx', hrel', rfl⟩
              · rintro H' - ⟨n', xs', u', hnx', hrel', rfl⟩
                cbv
                apply hQ3
                refine ⟨_, _, _, hltc, .trans (.keep [9, 10, 11, 14, 16]) (.drop 10 rfl (Nat.zero_le _)), _, n', no', xs', u', out', lk', _, _, rfl, by omega, hnx', hrel', hno', by omega, heq2, by rw [← hstep, hloop], rfl, rfl⟩
            · have h9' : 0 ≤ r := by rw [hz3] at h9; exact of_decide_eq_true h9
              obtain ⟨i3, hri, hi3, hu0, hu1⟩ : ∃ i : Nat, r = Int.ofNat i ∧ i < n ∧ getI uu (xs.getD i 0) = 0 ∧ ∀ j, j < i → getI uu (xs.getD j 0) ≠ 0 := by
                rcases hr with ⟨e, _⟩ | ⟨i, e, hi, h0, h1⟩
                · omega
                · exact ⟨i, e, hi, beq_iff_eq.1 h0, fun j hj => beq_eq_false_iff_ne.1 (h1 j hj)⟩
              have hlt3 : i3 < (xs.take n).length := by rw [List.length_take]; omega
              have hfr := hrel.free hlt3 (by rw [hget _ hi3]; exact hu0) (fun j hj => by rw [hget j (by omega)]; exact hu1 j hj)
              rw [hget _ hi3] at hfr
              have hmemp : xs.getD i3 0 ∈ xs.take n := by rw [← hget _ hi3]; exact getD_mem hlt3
              have hltf := step_free_lt (l := l2) (by rw [hfr.1]; exact hfr.2)
              rw [hfr.1, if_pos hfr.2] at hstep
              rw [hfr.1] at hltf
              have eix : z3 .add 0 (z3 .nat r) = i3 := by rw [hz3, hri]; exact Nat.zero_add i3
              have eat : S3 .at_ elI.α elI.d xs i3 = xs.getD i3 0 := by rw [hS3]; rfl
              cbv
              refine ⟨by rw [hri]; exact (hltn i3).2 hi3, ?_⟩
              rw [eix, eat]
              generalize xs.getD i3 0 = p at hmemp hstep hltf ⊢
              have hsrc := hrel.source hmemp
              have hst2 := hrel.step hmemp
              have hgb := hcnt (getI mm p)
              have hpq : (-1000000 ≤ p ∧ p ≤ 100000) ∧ (-1000000 ≤ getI mm p ∧ getI mm p ≤ 100000) := by
                obtain ⟨q, hq, e⟩ := (hrel.mem _).1 hmemp
                have h1 := hplc q hq
                have h2 := hrel.src q hq
                rw [e] at h2
                omega
              rw [hsrc] at hstep
              have e1 : S3 .mget mII mm (mII.kdec (.int .i64 p)) = getI mm p := by rw [hS3]; rfl
              rw [e1]
              generalize hq : getI mm p = q at hstep hpq
              refine use_ct [0, 9] hS3 (Cx.plain_ok _ _) rfl (fun yl => bringI_ct yl no sc sp p q false out hno (by omega) hpq.1 hpq.2 (by omega) (by omega)) (fun k hk => absurd hk (Nat.not_lt_zero _)) ?_
              rintro o h' ⟨no', lk', out', hno', hbr, rfl, rfl⟩
              have heq2 := heq.bring sc sp p q
              rw [← hbr] at heq2
              generalize bringR sc sp (oR, err) p q = s1 at hstep heq2
              obtain ⟨o2, er2⟩ := s1
              have hbl := bringI_len sc sp (out, false) p q
              rw [← hbr, ← hno', ← hno] at hbl
              cbv
              refine use_ct [4, 2, 5, 3, 1, 7] hS3 (Cx.plain_ok _ _) rfl (fun yl => gone_ct yl n xs mm uu p hnx (by omega) hgb) (may_none [4, 2, 5, 3, 1, 7]) ?_
              rintro o h' ⟨n', ys', u', hu', hn', htk, hlen', rfl, rfl⟩
              have hk1 := List.length_filter_le (fun q : Int => q != p) (xs.take n)
              cbv
              apply hQ3
              refine ⟨_, _, _, hltf, .keep [9, 10, 11, 14, 16], _, n', no', ys', u', out', lk', _, _, rfl, by omega, ?_, ?_, hno', by omega, heq2, by rw [← hstep, hloop], rfl, rfl⟩
              · have h7 : (xs.take n).length ≤ n := by rw [List.length_take]; omega
                have h9 : n' ≤ xs.length := by rw [hn']; exact Nat.le_trans (Nat.le_trans hk1 h7) hnx
                exact Nat.le_trans h9 (Nat.le_of_eq hlen'.symm)
              · rw [htk, hu']; exact hst2
      · have ekey : S2 .mkey mII mm i2 = keyAt mm i2 := by rw [hS2]; exact keyM_real mII mm i2
        have ers : z2 .iers rem i2 = rem.erase i2 := by rw [hz2]; rfl
        have hrl : (rem.erase i2).length + 1 = rem.length := by
          have h1 := List.length_erase_of_mem hi2
          have h2 := List.length_pos_of_mem hi2
          omega
        have hperm2 : ((ks ++ [keyAt mm i2]) ++ (rem.erase i2).map (keyAt mm)).Perm (mm.map (·.1)) := by
          refine List.Perm.trans ?_ hperm
          rw [List.append_assoc]
          refine List.Perm.append_left ks ?_
          have := (List.perm_cons_erase hi2).map (keyAt mm)
          exact this.symm
        cbv
        rw [ekey, ers]
        generalize keyAt mm i2 = kk at hperm2 ⊢
        refine ⟨⟨rfl, rfl⟩, ?_⟩
        cbv
        refine ⟨by rw [hz2]; show n2 + 1 ≤ 1000000; omega, by rw [hS2]; exact fun k hk => absurd hk (Nat.not_lt_zero _), ?_⟩
        apply hQ2
        have elen : z2 .add n2 1 = n2 + 1 := by rw [hz2]; rfl
        have eapp : S2 .app elI.α (S2 .cut elI.α ks 0 n2) [kk] = ks ++ [kk] := by
          rw [hS2]
          show (ks.take n2).drop 0 ++ [kk] = _
          rw [hn2, List.take_length]; rfl
        refine ⟨_, _, _, ?_, .keep [9, 10, 11, 14, 57], rem.erase i2, ks ++ [kk], n2 + 1, some i2, rfl, by rw [List.length_append, ← hn2]; rfl, hperm2, rfl, ?_⟩
        · omega
        · rw [← elen, ← eapp]; rfl
    · have hlt : i < l.length := by
        rw [hz'] at h6
        have h6' : (i : Int) < (n : Int) := of_decide_eq_true h6
        omega
      have eat : S' .at_ (Int × Int) (0, 0) l (z' .nat (Int.ofNat i)) = l.getD i (0, 0) := by rw [hS', hz']; rfl
      have einc : z' .ar .add .i64 (Int.ofNat i) 1 = Int.ofNat (i + 1) := by rw [hz']; exact rz_inc i (by omega)
      have htk : l.take (i + 1) = l.take i ++ [l.getD i (0, 0)] := by
        rw [List.take_add_one, List.getElem?_eq_getElem hlt, List.getD_eq_getElem?_getD, List.getElem?_eq_getElem hlt]; rfl
      have hnew : ∀ a ∈ l.take i, a.1 ≠ (l.getD i (0, 0)).1 := fun a ha e => by
        have hnd2 : ((l.take (i + 1)).map (·.1)).Nodup := List.Nodup.sublist (List.Sublist.map _ (List.take_sublist _ _)) hnd
        rw [htk, List.map_append] at hnd2
        exact (List.nodup_append.1 hnd2).2.2 a.1 (List.mem_map.2 ⟨a, ha, rfl⟩) _ (by simp) e
      cbv
      refine ⟨by rw [hS']; simp [reals]; omega, ?_⟩
      rw [eat]
      generalize l.getD i (0, 0) = q at htk hnew ⊢
      obtain ⟨to, frm⟩ := q
      cbv
      rcases h7 : z' .ne to frm with _ | _
      · have h7' : (to != frm) = false := by rw [hz'] at h7; exact h7
        cbv
        apply hQ
        rw [einc]
        exact ⟨_, _, _, by omega, .trans (.keep [9, 10, 11, 34, 35, 36]) (.drop 5 rfl (Nat.zero_le _)), i + 1, n, mm, u, hn, hlt, rfl, by rw [htk]; exact hbt.skip h7', rfl, rfl⟩
      · have h7' : (to != frm) = true := by rw [hz'] at h7; exact h7
        have hcl := hbt.cnt_le frm
        have hli : (l.take i).length ≤ 24 := by rw [List.length_take]; omega
        have e2 : S' .mget mII u (mII.kdec (.int .i64 frm)) = getI u frm := by rw [hS']; rfl
        have e3 : z' .ar .add .i64 (getI u frm) 1 = getI u frm + 1 := by rw [hz']; exact rz_add (by omega) (by omega)
        have e4 : S' .mput mII u (mII.kdec (.int .i64 frm)) (mII.vdec (.int .i64 (getI u frm + 1))) = putI u frm (getI u frm + 1) := by rw [hS']; rfl
        have e5 : S' .mput mII mm (mII.kdec (.int .i64 to)) (mII.vdec (.int .i64 frm)) = putI mm to frm := by rw [hS']; rfl
        cbv
        rw [e2, e3, e4, e5, einc]
        apply hQ
        exact ⟨_, _, _, by omega, .trans (.keep [9, 10, 11, 34, 35, 36]) (.drop 5 rfl (Nat.zero_le _)), i + 1, n, _, _, hn, hlt, rfl, by rw [htk]; exact hbt.add h7' hnew, rfl, rfl⟩
  · have he : e ≠ 0 := by
      rw [hz] at h5
      have h5' : (e != 0) = true := h5
      simpa using h5'
    cbv
    refine hR _ _ _ _ (.slot 0 (LeV.nils Mac ⟨0, 0, 0, 0, 0, 0, 0⟩ 8 encK false)) ⟨?_, rfl⟩
    have ho : orderR l sc sp = ([], e) := by simp [orderR, ← hw, he]
    rw [ho]
    rfl
end Go.Ab
