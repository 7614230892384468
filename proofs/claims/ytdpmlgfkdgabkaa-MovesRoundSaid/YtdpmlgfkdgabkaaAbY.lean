/- Contracts of the program's functions over an abstract state, and what they rest on: part AbY. No condition. -/
import Derived.Test.YtdpmlgfkdgabkaaAbX
set_option linter.unusedVariables false
set_option linter.unusedSimpArgs false

/- Moves that go round come back, plainly. -/
namespace Go.Ab
open Go.Proofs

def stepC (c : List Int) (k : Nat) : Move := (c.getD k 0, c.getD ((k + 1) % c.length) 0)
def turnM (c : List Int) (k : Nat) : List Move := (List.range k).map (stepC c)

theorem turnM_len (c : List Int) (k : Nat) : (turnM c k).length = k := by simp [turnM]
theorem turnM_succ (c : List Int) (k : Nat) : turnM c (k + 1) = turnM c k ++ [stepC c k] := by
  rw [turnM, List.range_succ, List.map_append]; rfl

section
variable {c : List Int}

theorem GoodC.getD_inj (g : GoodC c) {i j : Nat} (hi : i < c.length) (hj : j < c.length) (h : c.getD i 0 = c.getD j 0) : i = j := by
  rw [List.getD_eq_getElem?_getD, List.getElem?_eq_getElem hi, List.getD_eq_getElem?_getD, List.getElem?_eq_getElem hj] at h
  exact (List.getElem?_inj hi g.nd).1 (by rw [List.getElem?_eq_getElem hi, List.getElem?_eq_getElem hj]; exact congrArg some h)

theorem GoodC.at (g : GoodC c) {i : Nat} (hi : i < c.length) : 0 ≤ c.getD i 0 ∧ c.getD i 0 < 24 ∧ c.getD i 0 ≠ 15 := g.pl _ (getD_mem hi)

theorem GoodC.mod (g : GoodC c) (k : Nat) : k % c.length < c.length := Nat.mod_lt _ (by have := g.two; omega)

theorem GoodC.ok (g : GoodC c) : OkM (turnM c c.length) := by
  have hm : ∀ q ∈ turnM c c.length, ∃ i < c.length, q = stepC c i := fun q hq => by
    obtain ⟨i, hi, e⟩ := List.mem_map.1 hq
    exact ⟨i, List.mem_range.1 hi, e.symm⟩
  refine ⟨?_, fun q hq => ?_, fun q hq => ?_⟩
  · rw [turnM, List.map_map, List.Nodup, List.pairwise_map, List.pairwise_iff_getElem]
    intro i j hi hj hij
    simp only [List.getElem_range]
    simp at hi hj
    exact fun e => absurd (g.getD_inj hi hj e) (by omega)
  · obtain ⟨i, hi, rfl⟩ := hm q hq
    have a := g.at hi
    have b := g.at (g.mod (i + 1))
    exact ⟨⟨a.1, a.2.1⟩, b.1, b.2.1⟩
  · obtain ⟨i, hi, rfl⟩ := hm q hq
    exact ⟨(g.at hi).2.2, (g.at (g.mod (i + 1))).2.2⟩

/-- How things stand behind t rounds. -/
structure Turned (c q : List Int) (t : Nat) (p : List Int) : Prop where
  len : p.length = 40
  on : ∀ j < c.length, atR p (c.getD j 0) = atR q (c.getD ((j + t) % c.length) 0)
  off : ∀ k, Kept (-1) k → k ∉ c → atR p k = atR q k

theorem Turned.zero {q : List Int} (hq : q.length = 40) : Turned c q 0 q :=
  ⟨hq, fun j hj => by rw [Nat.add_zero, Nat.mod_eq_of_lt hj], fun _ _ _ => rfl⟩

theorem Turned.step (g : GoodC c) {q p : List Int} {t : Nat} (h : Turned c q t p) : Turned c q (t + 1) (doR regI (outR (turnM c c.length) (-1)) p) := by
  have hok := g.ok
  have hal := fun k hk => order_alike hok (sc := -1) (.inl rfl) h.len k hk
  have hval : ∀ k : Int, 0 ≤ k ∧ k < 40 → atR (afterR (turnM c c.length) p) k = lastTo p (turnM c c.length) k (atR p k) := fun k hk => by
    rw [atR, afterR_len, h.len, if_neg (by omega), afterR, after_getD _ _ _ _ (by rw [h.len]; omega), atR, h.len, if_neg (by omega)]
    congr 1
    omega
  have kept : ∀ j < c.length, Kept (-1) (c.getD j 0) := fun j hj => by
    have := g.at hj
    exact ⟨this.1, by omega, by omega, by omega, fun e => by cases e⟩
  refine ⟨by rw [doR_length, h.len], fun j hj => ?_, fun k hk hkc => ?_⟩
  · rw [hal _ (kept j hj), hval _ ⟨(kept j hj).1, (kept j hj).2.1⟩, lastTo_one p (turnM c c.length) (c.getD j 0) _ (stepC c j) (List.mem_map.2 ⟨j, List.mem_range.2 hj, rfl⟩) rfl hok.nd]
    show atR p (c.getD ((j + 1) % c.length) 0) = _
    rw [h.on _ (g.mod (j + 1))]
    congr 2
    rw [Nat.mod_add_mod]
    congr 1
    omega
  · rw [hal k hk, hval k ⟨hk.1, hk.2.1⟩, lastTo_none p _ k _ (fun m hm e => ?_), h.off k hk hkc]
    obtain ⟨i, hi, rfl⟩ := List.mem_map.1 hm
    rw [← e] at hkc
    exact hkc (getD_mem (List.mem_range.1 hi))

theorem Turned.back {q p : List Int} (h : Turned c q c.length p) (k : Int) (hk : Kept (-1) k) : atR p k = atR q k := by
  by_cases hc : k ∈ c
  · obtain ⟨j, hj, e⟩ := mem_getD_ix hc
    rw [← e, h.on j hj, Nat.add_mod_right, Nat.mod_eq_of_lt hj]
  · exact h.off k hk hc
end
end Go.Ab

/- MovesRound. -/
namespace Go.Ab
open Go.Proofs

def tr11 : Nat → DT
  | 10 => (.take 0 (.take 1 (.take 2 (.take 3 (.take 5 (.take 8 (.take 9 (.take 10 (.take 12 (.take 13 (.take 14 (.take 15 (.take 16 (.alt 4 (.take 6 (.alt 7 (.alt 11 (.alt 17 (.alt 18 (.take 19 (.take 20 (.alt 21 (.alt 22 (.alt 23 (.alt 24 (.take 25 .done) .stop) .stop) .stop) .stop))) .stop) .stop) (.alt 17 (.alt 11 (.alt 18 (.take 19 (.take 20 (.alt 21 (.alt 22 (.alt 23 (.alt 24 (.take 25 .done) .stop) .stop) .stop) .stop))) .stop) (.alt 18 (.take 19 (.alt 11 (.take 20 (.alt 21 (.alt 22 (.alt 23 (.alt 24 (.take 25 .done) .stop) .stop) .stop) .stop)) .stop)) .stop)) .stop)) (.alt 11 (.alt 7 (.alt 17 (.alt 18 (.take 19 (.take 20 (.alt 21 (.alt 22 (.alt 23 (.alt 24 (.take 25 .done) .stop) .stop) .stop) .stop))) .stop) .stop) (.alt 17 (.alt 7 (.alt 18 (.take 19 (.take 20 (.alt 21 (.alt 22 (.alt 23 (.alt 24 (.take 25 .done) .stop) .stop) .stop) .stop))) .stop) (.alt 18 (.take 19 (.take 20 (.alt 7 (.alt 21 (.alt 22 (.alt 23 (.alt 24 (.take 25 .done) .stop) .stop) .stop) .stop) (.alt 21 (.alt 7 (.alt 22 (.alt 23 (.alt 24 (.take 25 .done) .stop) .stop) .stop) .stop) .stop)))) .stop)) .stop)) (.alt 17 (.alt 7 (.alt 11 (.alt 18 (.take 19 (.take 20 (.alt 21 (.alt 22 (.alt 23 (.alt 24 (.take 25 .done) .stop) .stop) .stop) .stop))) .stop) (.alt 18 (.take 19 (.alt 11 (.take 20 (.alt 21 (.alt 22 (.alt 23 (.alt 24 (.take 25 .done) .stop) .stop) .stop) .stop)) .stop)) .stop)) (.alt 11 (.alt 7 (.alt 18 (.take 19 (.take 20 (.alt 21 (.alt 22 (.alt 23 (.alt 24 (.take 25 .done) .stop) .stop) .stop) .stop))) .stop) (.alt 18 (.take 19 (.take 20 (.alt 7 (.alt 21 (.alt 22 (.alt 23 (.alt 24 (.take 25 .done) .stop) .stop) .stop) .stop) (.alt 21 (.alt 7 (.alt 22 (.alt 23 (.alt 24 (.take 25 .done) .stop) .stop) .stop) .stop) .stop)))) .stop)) (.alt 18 (.take 19 (.alt 7 (.alt 11 (.take 20 (.alt 21 (.alt 22 (.alt 23 (.alt 24 (.take 25 .done) .stop) .stop) .stop) .stop)) .stop) (.alt 11 (.take 20 (.alt 7 (.alt 21 (.alt 22 (.alt 23 (.alt 24 (.take 25 .done) .stop) .stop) .stop) .stop) (.alt 21 (.alt 7 (.alt 22 (.alt 23 (.alt 24 (.take 25 .done) .stop) .stop) .stop) .stop) .stop))) .stop))) .stop))) .stop)))) (.alt 11 (.alt 4 (.take 6 (.alt 7 (.alt 17 (.alt 18 (.take 19 (.take 20 (.alt 21 (.alt 22 (.alt 23 (.alt 24 (.take 25 .done) .stop) .stop) .stop) .stop))) .stop) .stop) (.alt 17 (.alt 7 (.alt 18 (.take 19 (.take 20 (.alt 21 (.alt 22 (.alt 23 (.alt 24 (.take 25 .done) .stop) .stop) .stop) .stop))) .stop) (.alt 18 (.take 19 (.take 20 (.alt 7 (.alt 21 (.alt 22 (.alt 23 (.alt 24 (.take 25 .done) .stop) .stop) .stop) .stop) (.alt 21 (.alt 7 (.alt 22 (.alt 23 (.alt 24 (.take 25 .done) .stop) .stop) .stop) .stop) .stop)))) .stop)) .stop))) (.alt 17 (.alt 4 (.take 6 (.alt 7 (.alt 18 (.take 19 (.take 20 (.alt 21 (.alt 22 (.alt 23 (.alt 24 (.take 25 .done) .stop) .stop) .stop) .stop))) .stop) (.alt 18 (.take 19 (.take 20 (.alt 7 (.alt 21 (.alt 22 (.alt 23 (.alt 24 (.take 25 .done) .stop) .stop) .stop) .stop) (.alt 21 (.alt 7 (.alt 22 (.alt 23 (.alt 24 (.take 25 .done) .stop) .stop) .stop) .stop) .stop)))) .stop))) (.alt 18 (.take 19 (.take 20 (.alt 4 (.take 6 (.alt 7 (.alt 21 (.alt 22 (.alt 23 (.alt 24 (.take 25 .done) .stop) .stop) .stop) .stop) (.alt 21 (.alt 7 (.alt 22 (.alt 23 (.alt 24 (.take 25 .done) .stop) .stop) .stop) .stop) .stop))) (.alt 21 (.alt 4 (.take 6 (.alt 7 (.alt 22 (.alt 23 (.alt 24 (.take 25 .done) .stop) .stop) .stop) .stop)) .stop) .stop)))) .stop)) .stop)) (.alt 17 (.alt 4 (.take 6 (.alt 7 (.alt 11 (.alt 18 (.take 19 (.take 20 (.alt 21 (.alt 22 (.alt 23 (.alt 24 (.take 25 .done) .stop) .stop) .stop) .stop))) .stop) (.alt 18 (.take 19 (.alt 11 (.take 20 (.alt 21 (.alt 22 (.alt 23 (.alt 24 (.take 25 .done) .stop) .stop) .stop) .stop)) .stop)) .stop)) (.alt 11 (.alt 7 (.alt 18 (.take 19 (.take 20 (.alt 21 (.alt 22 (.alt 23 (.alt 24 (.take 25 .done) .stop) .stop) .stop) .stop))) .stop) (.alt 18 (.take 19 (.take 20 (.alt 7 (.alt 21 (.alt 22 (.alt 23 (.alt 24 (.take 25 .done) .stop) .stop) .stop) .stop) (.alt 21 (.alt 7 (.alt 22 (.alt 23 (.alt 24 (.take 25 .done) .stop) .stop) .stop) .stop) .stop)))) .stop)) (.alt 18 (.take 19 (.alt 7 (.alt 11 (.take 20 (.alt 21 (.alt 22 (.alt 23 (.alt 24 (.take 25 .done) .stop) .stop) .stop) .stop)) .stop) (.alt 11 (.take 20 (.alt 7 (.alt 21 (.alt 22 (.alt 23 (.alt 24 (.take 25 .done) .stop) .stop) .stop) .stop) (.alt 21 (.alt 7 (.alt 22 (.alt 23 (.alt 24 (.take 25 .done) .stop) .stop) .stop) .stop) .stop))) .stop))) .stop)))) (.alt 11 (.alt 4 (.take 6 (.alt 7 (.alt 18 (.take 19 (.take 20 (.alt 21 (.alt 22 (.alt 23 (.alt 24 (.take 25 .done) .stop) .stop) .stop) .stop))) .stop) (.alt 18 (.take 19 (.take 20 (.alt 7 (.alt 21 (.alt 22 (.alt 23 (.alt 24 (.take 25 .done) .stop) .stop) .stop) .stop) (.alt 21 (.alt 7 (.alt 22 (.alt 23 (.alt 24 (.take 25 .done) .stop) .stop) .stop) .stop) .stop)))) .stop))) (.alt 18 (.take 19 (.take 20 (.alt 4 (.take 6 (.alt 7 (.alt 21 (.alt 22 (.alt 23 (.alt 24 (.take 25 .done) .stop) .stop) .stop) .stop) (.alt 21 (.alt 7 (.alt 22 (.alt 23 (.alt 24 (.take 25 .done) .stop) .stop) .stop) .stop) .stop))) (.alt 21 (.alt 4 (.take 6 (.alt 7 (.alt 22 (.alt 23 (.alt 24 (.take 25 .done) .stop) .stop) .stop) .stop)) .stop) .stop)))) .stop)) (.alt 18 (.take 19 (.alt 4 (.take 6 (.alt 7 (.alt 11 (.take 20 (.alt 21 (.alt 22 (.alt 23 (.alt 24 (.take 25 .done) .stop) .stop) .stop) .stop)) .stop) (.alt 11 (.take 20 (.alt 7 (.alt 21 (.alt 22 (.alt 23 (.alt 24 (.take 25 .done) .stop) .stop) .stop) .stop) (.alt 21 (.alt 7 (.alt 22 (.alt 23 (.alt 24 (.take 25 .done) .stop) .stop) .stop) .stop) .stop))) .stop))) (.alt 11 (.take 20 (.alt 4 (.take 6 (.alt 7 (.alt 21 (.alt 22 (.alt 23 (.alt 24 (.take 25 .done) .stop) .stop) .stop) .stop) (.alt 21 (.alt 7 (.alt 22 (.alt 23 (.alt 24 (.take 25 .done) .stop) .stop) .stop) .stop) .stop))) (.alt 21 (.alt 4 (.take 6 (.alt 7 (.alt 22 (.alt 23 (.alt 24 (.take 25 .done) .stop) .stop) .stop) .stop)) .stop) .stop))) .stop))) .stop))) .stop))))))))))))))))
  | 23 => (.take 0 (.take 1 (.take 2 (.take 4 (.take 5 (.take 6 (.alt 3 (.alt 7 (.take 8 (.take 9 (.take 10 (.take 11 (.take 12 (.take 13 (.take 14 (.take 15 (.take 16 .done))))))))) .stop) (.alt 7 (.alt 3 (.take 8 (.take 9 (.take 10 (.take 11 (.take 12 (.take 13 (.take 14 (.take 15 (.take 16 .done))))))))) .stop) .stop))))))))
  | _ => .stop

set_option maxHeartbeats 16000000 in
theorem roundlaw_ct (yl : Nat) (fs : Bool) (s : List Int) (x : Int) : CT Try.prog (Cx.plain yl) noAr 11 [vI fs s, .int .i32 x] [] (fun o H => o = .ret (.bool true) ∧ H = []) := by
  obtain ⟨dL, _⟩ := decL_ex
  refine CT_of_W (tab := tabN dL) (D := []) (tr := tr11) Try.func11 (by kernel_rfl) rfl (tabN_ok dL) (Cx.plain_ok _ _) (by kernel_rfl) (fun z S R hz hS hR => ?_)
  cbv
  refine use_ct [] hS (Cx.plain_ok _ _) rfl (fun yl => awake_ct yl) (may_none []) ?_
  rintro o h' ⟨rfl, rfl⟩
  cbv
  refine use_ct [] hS (Cx.plain_ok _ _) rfl (fun yl => made_ct yl fs s) (may_none []) ?_
  rintro o h' ⟨l, hl, rfl, rfl⟩
  have hll : l.length ≤ 24 := by
    have := madeTo_len s (min s.length 20)
    rw [hl]; unfold madeR; omega
  have hok : OkM l := by rw [hl]; exact made_ok s
  clear hl
  cbv
  refine use_ct [] hS (Cx.plain_ok _ _) rfl (fun yl => circlesI_ct yl false l hll hok) (may_none []) ?_
  rintro o h' ⟨cs, hgood, hcl, rfl, rfl⟩
  clear hok hll
  cbv
  refine tri_loop hS (Cx.plain_ok _ _) (Nat.zero_le _) (fun m env H => ∃ (i : Nat), i ≤ cs.length ∧ m = cs.length - i ∧
      env = mkE 122 [(1, .int .i32 x), (5, .bool true), (6, vL false cs), (7, .int .i64 i)] ∧ H = []) cs.length
    (.keep [1, 5, 6, 7]) (Nat.zero_le _) ⟨0, Nat.zero_le _, rfl, rfl, rfl⟩ ?_
  rintro m env H ⟨i, hi, rfl, rfl, rfl⟩ hh
  refine T_of_W (tab := tabN dL) (D := []) (tr := tr11) (tabN_ok dL) (Cx.plain_ok _ _) (by kernel_rfl) hh (fun z1 S1 Q1 hz1 hS1 hQ1 => ?_)
  cbv
  rcases h1 : z1 .lt (Int.ofNat i) (S1 .len (List Int) cs) with _ | _
  · cbv
    apply hQ1
    cbv
    exact hR _ _ _ _ (.drop 0 rfl (Nat.zero_le _)) ⟨rfl, rfl⟩
  · have hlt : i < cs.length := by
      rw [hz1, hS1] at h1
      have : (i : Int) < (cs.length : Int) := of_decide_eq_true h1
      omega
    have einc : z1 .ar .add .i64 (Int.ofNat i) 1 = Int.ofNat (i + 1) := by rw [hz1]; exact rz_inc i (by omega)
    obtain ⟨c, hc⟩ : ∃ c, c = cs.getD i [] := ⟨_, rfl⟩
    have hg : GoodC c := hgood c (by rw [hc, List.getD_eq_getElem?_getD, List.getElem?_eq_getElem hlt]; exact List.getElem_mem _)
    have htop := hg.top
    have htwo := hg.two
    have next : ∀ env' H', keepE [1, 5, 6, 7] env' = mkE 122 [(1, .int .i32 x), (5, .bool true), (6, vL false cs), (7, .int .i64 (Int.ofNat (i + 1)))] → H' = [.dead] → Q1 .norm env' H' := fun env' H' he hH => by
      subst hH
      apply hQ1
      exact ⟨_, _, _, by omega, .trans (Wk.to (.keep [1, 5, 6, 7]) he) (.drop 0 rfl (Nat.zero_le _)), i + 1, hlt, rfl, rfl, rfl⟩
    clear hQ1 hR hgood
    cbv
    refine tri_post hS1 (Nat.zero_le _) ?_
    refine tri_loop hS1 (Cx.plain_ok _ _) (Nat.zero_le _) (fun m env H => ∃ (k n : Nat) (ys : List Move), k ≤ c.length ∧ m = c.length - k ∧ n = ys.length ∧ ys = turnM c k ∧
        env = mkE 122 [(1, .int .i32 x), (5, .bool true), (6, vL false cs), (7, .int .i64 (Int.ofNat i)), (8, .ref 0 2 0 n), (9, .int .i64 k)] ∧ H = [.arr 31 elM ys]) c.length
      (.trans (.keep [1, 5, 6, 7, 8, 9]) (.own 8 31 elM_ok rfl)) (Nat.zero_le _) ⟨0, 0, [], Nat.zero_le _, rfl, rfl, rfl, rfl, rfl⟩ ?_
    rintro m env H ⟨k, n, ys, hk, rfl, hn, hys, rfl, rfl⟩ hh
    have hnk : n = k := by rw [hn, hys, turnM_len]
    refine T_of_W (tab := tabN dL) (D := []) (tr := tr11) (tabN_ok dL) (Cx.plain_ok _ _) (by kernel_rfl) hh (fun z2 S2 Q2 hz2 hS2 hQ2 => ?_)
    have hidc : S2 .idx (List Int) cs (Int.ofNat i) := by rw [hS2]; simp [reals]; omega
    have ec : (S2 .at_ (List Int) [] cs (z2 .nat (Int.ofNat i))) = c := by rw [hS2, hz2, hc]; rfl
    have elen : S2 .len Int (S2 .at_ (List Int) [] cs (z2 .nat (Int.ofNat i))) = (c.length : Int) := by rw [ec, hS2]; rfl
    cbv
    refine ⟨hidc, ?_⟩
    rcases h2 : z2 .lt (Int.ofNat k) (S2 .len Int (S2 .at_ (List Int) [] cs (z2 .nat (Int.ofNat i)))) with _ | _
    · have hkc : k = c.length := by
        rw [elen, hz2] at h2
        have : ¬ (k : Int) < (c.length : Int) := of_decide_eq_false h2
        omega
      rw [hkc] at hys
      have hokm : OkM ys := by rw [hys]; exact hg.ok
      have hyl : ys.length ≤ 24 := by rw [hys, turnM_len]; exact htop
      cbv
      apply hQ2
      clear hQ2
      refine ⟨mkE 122 [(1, .int .i32 x), (5, .bool true), (6, vL false cs), (7, .int .i64 (Int.ofNat i)), (8, vM false ys)], [.dead], .trans (.freeze 0 rfl) (Wk.to (.keep [1, 5, 6, 7, 8]) ?_), ?_⟩
      · show mkE 122 [(1, .int .i32 x), (5, .bool true), (6, vL false cs), (7, .int .i64 (Int.ofNat i)), (8, vM false (ys.take n))] = _
        rw [hn, List.take_length]
      clear h2 hn hnk hkc hidc ec elen
      cbv
      refine use_ct [] hS1 (Cx.plain_ok _ _) rfl (fun yl => start_ct yl x) (may_none []) ?_
      rintro o h' ⟨q, hq, rfl, rfl⟩
      have hql : q.length = 40 := by rw [hq]; exact startR_len x
      cbv
      refine tri_loop hS1 (Cx.plain_ok _ _) (Nat.zero_le _) (fun m env H => ∃ (t : Nat) (p : List Int), t ≤ c.length ∧ m = c.length - t ∧ Turned c q t p ∧
          env = mkE 122 [(1, .int .i32 x), (5, .bool true), (6, vL false cs), (7, .int .i64 (Int.ofNat i)), (8, vM false ys), (10, vJ false p), (11, .int .i64 t)] ∧ H = [.dead]) c.length
        (.keep [1, 5, 6, 7, 8, 10, 11]) (Nat.zero_le _) ⟨0, q, Nat.zero_le _, rfl, Turned.zero hql, rfl, rfl⟩ ?_
      rintro m env H ⟨t, p, ht, rfl, hturn, rfl, rfl⟩ hh
      have hpl := hturn.len
      refine T_of_W (tab := tabN dL) (D := []) (tr := tr11) (tabN_ok dL) (Cx.plain_ok _ _) (by kernel_rfl) hh (fun z3 S3 Q3 hz3 hS3 hQ3 => ?_)
      have hidc : S3 .idx (List Int) cs (Int.ofNat i) := by rw [hS3]; simp [reals]; omega
      have ec : (S3 .at_ (List Int) [] cs (z3 .nat (Int.ofNat i))) = c := by rw [hS3, hz3, hc]; rfl
      have elen : S3 .len Int (S3 .at_ (List Int) [] cs (z3 .nat (Int.ofNat i))) = (c.length : Int) := by rw [ec, hS3]; rfl
      cbv
      refine ⟨hidc, ?_⟩
      rcases h3 : z3 .lt (Int.ofNat t) (S3 .len Int (S3 .at_ (List Int) [] cs (z3 .nat (Int.ofNat i)))) with _ | _
      · have htc : t = c.length := by
          rw [elen, hz3] at h3
          have : ¬ (t : Int) < (c.length : Int) := of_decide_eq_false h3
          omega
        rw [htc] at hturn
        have hback := fun k hk => hturn.back k hk
        cbv
        apply hQ3
        clear hQ3 hturn h3 hidc ec elen
        cbv
        refine use_ct [] hS1 (Cx.plain_ok _ _) rfl (fun yl => start_ct yl x) (may_none []) ?_
        rintro o h' ⟨q2, hq2, rfl, rfl⟩
        obtain rfl : q2 = q := hq2.trans hq.symm
        clear hq2 hq
        cbv
        refine tri_loop hS1 (Cx.plain_ok _ _) (Nat.zero_le _) (fun m env H => ∃ (k : Nat), k ≤ 40 ∧ m = 40 - k ∧
            env = mkE 122 [(1, .int .i32 x), (5, .bool true), (6, vL false cs), (7, .int .i64 (Int.ofNat i)), (10, vJ false p), (14, vJ false q2), (15, .int .i64 k)] ∧ H = [.dead]) 40
          (.keep [1, 5, 6, 7, 10, 14, 15]) (Nat.zero_le _) ⟨0, Nat.zero_le _, rfl, rfl, rfl⟩ ?_
        rintro m env H ⟨k, hk, rfl, rfl, rfl⟩ hh
        refine T_of_W (tab := tabN dL) (D := []) (tr := tr11) (tabN_ok dL) (Cx.plain_ok _ _) (by kernel_rfl) hh (fun z4 S4 Q4 hz4 hS4 hQ4 => ?_)
        have stop : ∀ env', keepE [1, 5, 6, 7, 10] env' = mkE 122 [(1, .int .i32 x), (5, .bool true), (6, vL false cs), (7, .int .i64 (Int.ofNat i)), (10, vJ false p)] → True := fun _ _ => trivial
        have hidc : S1 .idx (List Int) cs (Int.ofNat i) := by rw [hS1]; simp [reals]; omega
        have ec : (S1 .at_ (List Int) [] cs (z1 .nat (Int.ofNat i))) = c := by rw [hS1, hz1, hc]; rfl
        have en1 : z1 .ne (S1 .len Int p) 40 = false := by
          rw [hz1, hS1]; show ((p.length : Int) != 40) = false; rw [hpl]; rfl
        have en2 : z1 .lt (S1 .len Int c) 2 = false := by
          rw [hz1, hS1]; exact decide_eq_false (by show ¬ (c.length : Int) < 2; omega)
        have elp : S4 .len Int p = 40 := by rw [hS4]; show (p.length : Int) = 40; rw [hpl]; rfl
        cbv
        rcases h4 : z4 .lt (Int.ofNat k) 40 with _ | _
        · cbv
          apply hQ4
          cbv
          rw [en1]
          cbv
          refine ⟨hidc, ?_⟩
          rw [ec]
          cbv
          rw [en2]
          cbv
          rw [einc]
          exact next _ _ rfl rfl
        · have hlt4 : k < 40 := by
            rw [hz4] at h4
            have : (k : Int) < (40 : Int) := of_decide_eq_true h4
            omega
          have einck : z4 .ar .add .i64 (Int.ofNat k) 1 = Int.ofNat (k + 1) := by rw [hz4]; exact rz_inc k (by omega)
          have hdrw : ∀ H, S4 .drw H := fun H => by rw [hS4]; exact ⟨rfl, by kernel_rfl⟩
          have hip : S4 .idx Int p (Int.ofNat k) := by rw [hS4]; simp [reals]; omega
          have hiq : S4 .idx Int q2 (Int.ofNat k) := by rw [hS4]; simp [reals]; omega
          have fin : ∀ env', keepE [1, 5, 6, 7, 10, 14, 15] env' = mkE 122 [(1, .int .i32 x), (5, .bool true), (6, vL false cs), (7, .int .i64 (Int.ofNat i)), (10, vJ false p), (14, vJ false q2), (15, .int .i64 (Int.ofNat (k + 1)))] → Q4 .norm env' [.dead] := fun env' he => by
            apply hQ4
            exact ⟨_, _, _, by omega, .keep [1, 5, 6, 7, 10, 14, 15], k + 1, hlt4, rfl, he, rfl⟩
          have key : z4 .ne (S4 .at_ Int 0 p (z4 .nat (Int.ofNat k))) (S4 .at_ Int 0 q2 (z4 .nat (Int.ofNat k))) = true → z4 .ne (Int.ofNat k) 26 = true → z4 .ne (Int.ofNat k) 27 = true → False := fun a b c' => by
            have b' : (k : Int) ≠ 26 := by rw [hz4] at b; exact bne_iff_ne.1 b
            have c'' : (k : Int) ≠ 27 := by rw [hz4] at c'; exact bne_iff_ne.1 c'
            have a' : p.getD k 0 ≠ q2.getD k 0 := by rw [hz4, hS4] at a; exact bne_iff_ne.1 a
            have h := hback (k : Int) ⟨by omega, by omega, b', c'', fun e => by cases e⟩
            rw [atR, atR, hpl, hql, if_neg (by omega), if_neg (by omega)] at h
            exact a' h
          clear hQ4 next
          cbv
          have h5 : z4 .lt (Int.ofNat k) (S4 .len Int p) = true := by rw [elp]; exact h4
          rw [h5]
          cbv
          refine ⟨hdrw _, ?_⟩
          cbv
          rcases hb1 : z4 .ne (S4 .at_ Int 0 p (z4 .nat (Int.ofNat k))) (S4 .at_ Int 0 q2 (z4 .nat (Int.ofNat k))) with _ | _
          · cbv
            repeat' first
              | exact trivial
              | exact hip
              | exact hiq
              | refine And.intro ?_ ?_
              | (rw [einck]; exact fin _ rfl)
              | (cbv; rw [einck]; exact fin _ rfl)
              | fail
          · cbv
            rcases hb2 : z4 .ne (Int.ofNat k) 26 with _ | _
            · cbv
              repeat' first
                | exact trivial
                | exact hip
                | exact hiq
                | refine And.intro ?_ ?_
                | (rw [einck]; exact fin _ rfl)
                | fail
            · rcases hb3 : z4 .ne (Int.ofNat k) 27 with _ | _
              · cbv
                repeat' first
                  | exact trivial
                  | exact hip
                  | exact hiq
                  | refine And.intro ?_ ?_
                  | (rw [hb3]; cbv; rw [einck]; exact fin _ rfl)
                  | fail
              · exact (key hb1 hb2 hb3).elim
      · have htc : t < c.length := by
          rw [elen, hz3] at h3
          have : (t : Int) < (c.length : Int) := of_decide_eq_true h3
          omega
        have einct : z3 .ar .add .i64 (Int.ofNat t) 1 = Int.ofNat (t + 1) := by rw [hz3]; exact rz_inc t (by omega)
        have hol := out_len hokm hyl (.inl rfl)
        have hne0 : z3 .ne 0 0 = false := by rw [hz3]; rfl
        have hst := hturn.step hg
        rw [← hys] at hst
        clear next
        cbv
        refine use_ct [] hS3 (Cx.plain_ok _ _) rfl (fun yl => order17ok_ct yl false ys (-1) hokm hyl (.inl rfl)) (may_none []) ?_
        rintro o h' ⟨A, hA, rfl, rfl⟩
        rw [← hA] at hol hst
        cbv
        rw [hne0]
        cbv
        refine use_ct [] hS3 (Cx.plain_ok _ _) rfl (fun yl => CT.le (do23_fz yl false false (A.map fun m => (m, [])) p (by rw [List.length_map]; exact hol) (by omega)) ⟨LeV.macs _ _, LeV.refl _, trivial⟩) (may_none []) ?_
        rintro o h' ⟨d, hd, rfl, rfl⟩
        rw [map_fst] at hd
        rw [← hd] at hst
        cbv
        apply hQ3
        rw [einct]
        exact ⟨_, _, _, by omega, .keep [1, 5, 6, 7, 8, 10, 11], t + 1, d, htc, rfl, hst, rfl, rfl⟩
    · have hkc : k < c.length := by
        rw [elen, hz2] at h2
        have : (k : Int) < (c.length : Int) := of_decide_eq_true h2
        omega
      have einck : z2 .ar .add .i64 (Int.ofNat k) 1 = Int.ofNat (k + 1) := by rw [hz2]; exact rz_inc k (by omega)
      have hdrw : ∀ H, S2 .drw H := fun H => by rw [hS2]; exact ⟨rfl, by kernel_rfl⟩
      have hmv : ∀ i H, S2 .mv i H := fun i H => by rw [hS2]; exact fun k hk => absurd hk (Nat.not_lt_zero _)
      have hbd : z2 .bd n 1 := by rw [hz2]; show n + 1 ≤ 1000000; omega
      have hid1 : S2 .idx Int (S2 .at_ (List Int) [] cs (z2 .nat (Int.ofNat i))) (Int.ofNat k) := by rw [ec, hS2]; simp [reals]; omega
      have er : z2 .ar .rem .i64 (z2 .ar .add .i64 (Int.ofNat k) 1) (S2 .len Int (S2 .at_ (List Int) [] cs (z2 .nat (Int.ofNat i)))) = (((k + 1) % c.length : Nat) : Int) := by
        rw [einck, elen, hz2]
        show Int.tmod ((k + 1 : Nat) : Int) (c.length : Int) = _
        rw [Int.tmod_eq_emod_of_nonneg (by omega)]
        exact (Int.natCast_emod _ _).symm
      have hrok : z2 .arok .rem .i64 (z2 .ar .add .i64 (Int.ofNat k) 1) (S2 .len Int (S2 .at_ (List Int) [] cs (z2 .nat (Int.ofNat i)))) := by
        rw [elen, hz2]; exact (by omega : (c.length : Int) ≠ 0)
      have hid2 : S2 .idx Int (S2 .at_ (List Int) [] cs (z2 .nat (Int.ofNat i))) (z2 .ar .rem .i64 (z2 .ar .add .i64 (Int.ofNat k) 1) (S2 .len Int (S2 .at_ (List Int) [] cs (z2 .nat (Int.ofNat i))))) := by
        have := hg.mod (k + 1)
        rw [er, ec, hS2]; exact ⟨Int.natCast_nonneg _, Int.ofNat_lt.2 this⟩
      have eblk : S2 .app elM.α (S2 .cut elM.α ys 0 n) [(S2 .at_ Int 0 (S2 .at_ (List Int) [] cs (z2 .nat (Int.ofNat i))) (z2 .nat (Int.ofNat k)), S2 .at_ Int 0 (S2 .at_ (List Int) [] cs (z2 .nat (Int.ofNat i))) (z2 .nat (z2 .ar .rem .i64 (z2 .ar .add .i64 (Int.ofNat k) 1) (S2 .len Int (S2 .at_ (List Int) [] cs (z2 .nat (Int.ofNat i)))))))] = ys ++ [stepC c k] := by
        rw [er, ec, hS2, hz2]
        show (ys.take n).drop 0 ++ [(c.getD k 0, c.getD ((k + 1) % c.length) 0)] = _
        rw [hn, List.take_length]; rfl
      have en : z2 .add n 1 = n + 1 := by rw [hz2]; rfl
      have fin : ∀ env' n' zs k1, k1 = Int.ofNat (k + 1) → zs = ys ++ [stepC c k] → n' = n + 1 → keepE [1, 5, 6, 7, 8, 9] env' = mkE 122 [(1, .int .i32 x), (5, .bool true), (6, vL false cs), (7, .int .i64 (Int.ofNat i)), (8, .ref 0 2 0 n'), (9, .int .i64 k1)] → Q2 .norm env' [.arr 31 elM zs] := fun env' n' zs k1 hk1 h hn' he => by
        subst hk1
        apply hQ2
        exact ⟨_, _, _, by omega, .keep [1, 5, 6, 7, 8, 9], k + 1, n', zs, hkc, rfl, by rw [h, hn', hn]; simp, by rw [h, hys, turnM_succ], he, rfl⟩
      clear hQ2 next er ec elen
      refine ⟨hdrw _, ?_⟩
      cbv
      repeat' first
        | exact trivial
        | exact hidc
        | exact hid1
        | exact hid2
        | exact hrok
        | exact hbd
        | exact hmv _ _
        | refine And.intro ?_ ?_
        | exact fin _ _ _ _ einck eblk en rfl
        | fail
end Go.Ab
