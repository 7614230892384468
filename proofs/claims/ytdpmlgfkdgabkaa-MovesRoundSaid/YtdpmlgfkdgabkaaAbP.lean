/- Contracts of the program's functions over an abstract state, and what they rest on: part AbP. No condition. -/
import Derived.Test.YtdpmlgfkdgabkaaAbO
import Derived.Test.YtdpmlgfkdgabkaaAbL
set_option linter.unusedVariables false
set_option linter.unusedSimpArgs false

/- The laws' own start. -/
namespace Go.Ab
open Go.Proofs

def wordR (x : Int) (i : Nat) : Int := realz .ar .add .i32 x (realz .ar .mul .i32 (realz .wr .i32 i) 1000003)
def startTo (x : Int) (i : Nat) : List Int := (List.range i).map (wordR x)
def startR (x : Int) : List Int := startTo x 40
theorem startTo_succ (x : Int) (i : Nat) : startTo x (i + 1) = startTo x i ++ [wordR x i] := by
  rw [startTo, List.range_succ, List.map_append]; rfl
theorem startTo_len (x : Int) (i : Nat) : (startTo x i).length = i := by simp [startTo]
theorem startR_len (x : Int) : (startR x).length = 40 := startTo_len x 40

def tr20 : Nat → DT
  | _ => .stop

theorem start_ct (yl : Nat) (x : Int) : CT Try.prog (Cx.plain yl) noAr 20 [.int .i32 x] [] (fun o H => ∃ ys, ys = startR x ∧ o = .ret (vJ false ys) ∧ H = []) := by
  refine CT_of_W (tab := tabM) (D := []) (tr := tr20) Try.func20 (by kernel_rfl) rfl tabM_ok (Cx.plain_ok _ _) (by kernel_rfl) (fun z S R hz hS hR => ?_)
  cbv
  refine tri_loop hS (Cx.plain_ok _ _) (Nat.le_refl _) (fun m env H => ∃ (i : Nat) (n : Nat) (ys : List Int), i ≤ 40 ∧ m = 40 - i ∧ ys = startTo x i ∧ n = ys.length ∧
      env = mkE 18 [(0, .int .i32 x), (3, .ref 0 1 0 n), (4, .int .i64 i)] ∧ H = [.arr 21 elJ ys]) 40
    (.trans (.keep [0, 3, 4]) (.own 3 21 elJ_ok rfl)) (Nat.zero_le _) ⟨0, 0, [], Nat.zero_le _, rfl, rfl, rfl, rfl, rfl⟩ ?_
  rintro m env H ⟨i, n, ys, hi, rfl, hys, hn, rfl, rfl⟩ hh
  have hny : n ≤ 40 := by rw [hn, hys, startTo_len]; exact hi
  refine T_of_W (tab := tabM) (D := []) (tr := tr20) tabM_ok (Cx.plain_ok _ _) (by kernel_rfl) hh (fun z' S' Q' hz' hS' hQ => ?_)
  have fin : i = 40 → R [.ref 0 1 0 n] [.arr 21 elJ ys] := fun e => by
    refine hR _ _ _ _ (.trans (.freeze 0 rfl) (.drop 0 rfl (Nat.zero_le _))) ⟨_, rfl, ?_, rfl⟩
    show Out.ret (vJ false (ys.take n)) = _
    rw [hn, List.take_length, hys, e]; rfl
  cbv
  rcases h1 : z' .lt (Int.ofNat i) 40 with _ | _
  · have h1' : ¬ i < 40 := by
      rw [hz'] at h1
      have : ¬ (i : Int) < (40 : Int) := of_decide_eq_false h1
      omega
    cbv
    apply hQ
    cbv
    exact fin (by omega)
  · have h1' : i < 40 := by
      rw [hz'] at h1
      have : (i : Int) < (40 : Int) := of_decide_eq_true h1
      omega
    have einc : z' .ar .add .i64 (Int.ofNat i) 1 = Int.ofNat (i + 1) := by rw [hz']; exact rz_inc i (by omega)
    have hnext := startTo_succ x i
    have ew : z' .ar .add .i32 x (z' .ar .mul .i32 (z' .wr .i32 (Int.ofNat i)) 1000003) = wordR x i := by rw [hz']; rfl
    cbv
    refine ⟨by rw [hz']; show n + 1 ≤ 1000000; omega, by rw [hS']; exact fun k hk => absurd hk (Nat.not_lt_zero _), ?_⟩
    apply hQ
    rw [einc, ew]
    refine ⟨_, _, _, by omega, .keep [0, 3, 4], i + 1, n + 1, ys ++ [wordR x i], by omega, rfl, by rw [hnext, hys], by simp [hn], by rw [hz']; rfl, ?_⟩
    rw [hS']
    show [Blk.arr 21 elJ ((ys.take n).drop 0 ++ [wordR x i])] = _
    rw [hn, List.take_length]; rfl

/-- What start tells, is known where it is told. -/
theorem afterI_fz (yl : Nat) (fl fp : Bool) (l : List Move) (p : List Int) (hl : l.length ≤ 1000) (hp : p.length ≤ 100000) : CT Try.prog (Cx.plain yl) noAr 21 [vM fl l, vJ fp p] [] (fun o H => ∃ ys, ys = afterR l p ∧ o = .ret (vJ false ys) ∧ H = []) :=
  CT.freeze (afterI_ct yl fl fp l p hl hp)
theorem afterR_fz (yl : Nat) (fl fp : Bool) (l : List Move) (p : List Int) (hl : l.length ≤ 1000) (hp : p.length ≤ 100000) : CT Try.prog (Cx.plain yl) noAr 25 [vM fl l, vJ fp p] [] (fun o H => ∃ ys, ys = afterR l p ∧ o = .ret (vJ false ys) ∧ H = []) :=
  CT.freeze (afterR_ct yl fl fp l p hl hp)
theorem do23_fz (yl : Nat) (fl fp : Bool) (c : List MacX) (p : List Int) (hl : c.length ≤ 100000) (hp : p.length ≤ 100000) : CT Try.prog (Cx.plain yl) noAr 23 [vX fl c, vJ fp p] [] (fun o H => ∃ ys, ys = doR regI (c.map (·.1)) p ∧ o = .ret (vJ false ys) ∧ H = []) :=
  CT.freeze (do23_ct yl fl fp c p hl hp)
theorem do24_fz (yl : Nat) (fl fp : Bool) (c : List MacX) (p : List Int) (hl : c.length ≤ 100000) (hp : p.length ≤ 100000) : CT Try.prog (Cx.plain yl) noAr 24 [vX fl c, vJ fp p] [] (fun o H => ∃ ys, ys = doR regI (c.map (·.1)) p ∧ o = .ret (vJ false ys) ∧ H = []) := by
  rw [doR_reg]
  exact CT.freeze (do24_ct yl fl fp c p hl hp)

/-! ## What moves do all at once -/
theorem afterR_len (l : List Move) (p : List Int) : (afterR l p).length = p.length := by
  have : ∀ (l : List Move) (q : List Int), (l.foldl (fun out m => putR out m.1 (atR p m.2)) q).length = q.length := by
    intro l
    induction l with
    | nil => intro q; rfl
    | cons m l ih => intro q; rw [List.foldl_cons, ih, putR_len]
  exact this l p

theorem putR_getD (xs : List Int) (n v : Int) (k : Nat) : (putR xs n v).getD k 0 = if (k : Int) = n ∧ k < xs.length then v else xs.getD k 0 := by
  unfold putR
  by_cases h : 0 ≤ n ∧ n < (xs.length : Int)
  · rw [if_pos h, List.getD_eq_getElem?_getD, List.getElem?_set]
    by_cases h2 : n.toNat = k
    · rw [if_pos h2, if_pos (c := (k : Int) = n ∧ k < xs.length) ⟨by omega, by omega⟩, if_pos (by omega)]; rfl
    · rw [if_neg h2, if_neg (fun h' => h2 (by omega)), List.getD_eq_getElem?_getD]
  · rw [if_neg h, if_neg (fun h' => h ⟨by omega, by omega⟩)]

/-- The value that moves put at a place. -/
def lastTo (p : List Int) : List Move → Int → Int → Int
  | [], _, d => d
  | m :: l, k, d => lastTo p l k (if m.1 = k then atR p m.2 else d)

theorem after_getD (p : List Int) : ∀ (l : List Move) (q : List Int) (k : Nat), k < q.length → (l.foldl (fun out m => putR out m.1 (atR p m.2)) q).getD k 0 = lastTo p l k (q.getD k 0)
  | [], q, k, _ => rfl
  | m :: l, q, k, hk => by
    rw [List.foldl_cons, after_getD p l _ k (by rw [putR_len]; exact hk), putR_getD, lastTo]
    congr 1
    by_cases h : m.1 = k
    · rw [if_pos h, if_pos ⟨h.symm, hk⟩]
    · rw [if_neg h, if_neg (fun h' => h h'.1.symm)]

theorem lastTo_none (p : List Int) : ∀ (l : List Move) (k d : Int), (∀ m ∈ l, m.1 ≠ k) → lastTo p l k d = d
  | [], _, _, _ => rfl
  | m :: l, k, d, h => by
    rw [lastTo, if_neg (h m List.mem_cons_self), lastTo_none p l k d (fun x hx => h x (List.mem_cons_of_mem _ hx))]

theorem lastTo_one (p : List Int) : ∀ (l : List Move) (k d : Int) (m : Move), m ∈ l → m.1 = k → (l.map (·.1)).Nodup → lastTo p l k d = atR p m.2
  | [], _, _, _, h, _, _ => by cases h
  | x :: l, k, d, m, h, hk, hnd => by
    rw [lastTo]
    have hn := List.nodup_cons.1 hnd
    rcases List.mem_cons.1 h with rfl | h'
    · rw [if_pos hk, lastTo_none]
      intro y hy e
      exact hn.1 (List.mem_map.2 ⟨y, hy, e.trans hk.symm⟩)
    · exact lastTo_one p l k _ m h' hk hn.2

theorem spot_inj {i j : Int} (h : spotR i = spotR j) : i = j := by
  unfold spotR at h; split at h <;> split at h <;> omega

theorem made_mem (s : List Int) (m : Move) : ∀ i, m ∈ madeTo s i → ∃ j < i, m.1 = spotR j ∧ ∃ r, 0 ≤ r ∧ r < 20 ∧ m.2 = spotR r := fun i h => by
  unfold madeTo at h
  obtain ⟨j, hj, h2⟩ := List.mem_flatMap.1 h
  split at h2
  · next hc =>
    rw [List.mem_singleton] at h2
    exact ⟨j, List.mem_range.1 hj, by rw [h2], _, (rest_range _).1, hc, by rw [h2]⟩
  · cases h2

theorem made_nodup (s : List Int) : ∀ i, ((madeTo s i).map (·.1)).Nodup
  | 0 => by simp [madeTo]
  | i + 1 => by
    rw [madeTo_succ, List.map_append, List.nodup_append]
    refine ⟨made_nodup s i, ?_, ?_⟩
    · split <;> simp
    · intro a ha b hb
      obtain ⟨m, hm, rfl⟩ := List.mem_map.1 ha
      obtain ⟨j, hj, e, _⟩ := made_mem s m i hm
      split at hb
      · simp at hb
        intro h
        rw [e, hb] at h
        have := spot_inj h
        omega
      · simp at hb

theorem made_spots (s : List Int) (m : Move) (h : m ∈ madeR s) : (0 ≤ m.1 ∧ m.1 < 24) ∧ 0 ≤ m.2 ∧ m.2 < 24 := by
  obtain ⟨j, hj, e, r, h0, h1, e2⟩ := made_mem s m _ h
  unfold spotR at e e2
  constructor
  · split at e <;> omega
  · split at e2 <;> omega

theorem made_nd (s : List Int) : ((madeR s).map (·.1)).Nodup := made_nodup s _

theorem after_to (s : List Int) (p : List Int) (hp : p.length = 40) (m : Move) (h : m ∈ madeR s) : (afterR (madeR s) p).getD m.1.toNat 0 = p.getD m.2.toNat 0 := by
  have hs := made_spots s m h
  rw [afterR, after_getD _ _ _ _ (by rw [hp]; omega), lastTo_one p _ _ _ m h (by omega) (made_nd s), atR, if_neg (by rw [hp]; omega)]

theorem after_other (s : List Int) (p : List Int) (k : Nat) (hk : k < p.length) (h : ∀ m ∈ madeR s, m.1 ≠ k) : (afterR (madeR s) p).getD k 0 = p.getD k 0 := by
  rw [afterR, after_getD _ _ _ _ hk, lastTo_none _ _ _ _ h]
end Go.Ab

/- MovesAtOnce. -/
namespace Go.Ab
open Go.Proofs

theorem any_takeTo (l : List Move) {i : Nat} (hi : i < l.length) (k : Int) (m : Move) (hm : l.getD i (0, 0) = m) : (l.take (i + 1)).any (fun m => m.1 == k) = ((l.take i).any (fun m => m.1 == k) || (m.1 == k)) := by
  rw [any_take (fun m : Move => m.1 == k) l (0, 0) hi, hm]

theorem getD_memM (l : List Move) (d : Move) {i : Nat} (h : i < l.length) : l.getD i d ∈ l := by
  rw [List.getD_eq_getElem?_getD, List.getElem?_eq_getElem h]
  exact List.getElem_mem h

def tr7 : Nat → DT
  | 11 => (.take 0 (.take 1 (.take 2 (.take 3 (.take 4 (.take 8 (.take 9 (.take 10 (.take 11 (.take 12 (.alt 5 (.take 6 (.alt 7 (.alt 13 (.take 14 (.alt 15 (.take 16 .done) .stop)) .stop) (.alt 13 (.take 14 (.alt 7 (.alt 15 (.take 16 .done) .stop) (.alt 15 (.alt 7 (.take 16 .done) .stop) .stop))) .stop))) (.alt 13 (.take 14 (.alt 5 (.take 6 (.alt 7 (.alt 15 (.take 16 .done) .stop) (.alt 15 (.alt 7 (.take 16 .done) .stop) .stop))) (.alt 15 (.alt 5 (.take 6 (.alt 7 (.take 16 .done) .stop)) .stop) .stop))) .stop))))))))))))
  | 17 => (.take 0 (.take 1 (.alt 2 (.take 3 (.take 4 (.take 5 (.take 6 (.take 7 (.take 9 (.take 10 (.take 11 (.alt 8 (.alt 12 (.take 13 (.take 14 .done)) .stop) (.alt 12 (.alt 8 (.take 13 (.take 14 .done)) .stop) .stop)))))))))) .stop)))
  | _ => .stop

set_option maxHeartbeats 4000000 in
theorem atonce_ct (yl : Nat) (fs : Bool) (s : List Int) (x : Int) : CT Try.prog (Cx.plain yl) noAr 7 [vI fs s, .int .i32 x] [] (fun o H => o = .ret (.bool true) ∧ H = []) := by
  refine CT_of_W (tab := tabM) (D := []) (tr := tr7) Try.func7 (by kernel_rfl) rfl tabM_ok (Cx.plain_ok _ _) (by kernel_rfl) (fun z S R hz hS hR => ?_)
  cbv
  refine use_ct [] hS (Cx.plain_ok _ _) rfl (fun yl => awake_ct yl) (may_none []) ?_
  rintro o h' ⟨rfl, rfl⟩
  cbv
  refine use_ct [] hS (Cx.plain_ok _ _) rfl (fun yl => made_ct yl fs s) (may_none []) ?_
  rintro o h' ⟨l, hl, rfl, rfl⟩
  have hll : l.length ≤ 24 := by
    have := madeTo_len s (min s.length 20)
    rw [hl]; unfold madeR; omega
  cbv
  refine use_ct [] hS (Cx.plain_ok _ _) rfl (fun yl => start_ct yl x) (may_none []) ?_
  rintro o h' ⟨p, hp, rfl, rfl⟩
  have hpl : p.length = 40 := by rw [hp]; exact startR_len x
  cbv
  refine use_ct [] hS (Cx.plain_ok _ _) rfl (fun yl => afterI_fz yl false false l p (by omega) (by omega)) (may_none []) ?_
  rintro o h' ⟨g, hg, rfl, rfl⟩
  have hgl : g.length = 40 := by rw [hg, afterR_len, hpl]
  have hne : z .ne (S .len Int g) 40 = false := by
    rw [hz, hS]
    show ((g.length : Int) != 40) = false
    rw [hgl]; rfl
  have hat : ∀ m ∈ l, g.getD m.1.toNat 0 = p.getD m.2.toNat 0 := fun m hm => by
    rw [hg, hl]; rw [hl] at hm; exact after_to s p hpl m hm
  have hoth : ∀ k : Nat, k < 40 → (∀ m ∈ l, m.1 ≠ k) → g.getD k 0 = p.getD k 0 := fun k hk h => by
    rw [hg, hl]; rw [hl] at h; exact after_other s p k (by omega) h
  have hsp : ∀ m ∈ l, (0 ≤ m.1 ∧ m.1 < 24) ∧ 0 ≤ m.2 ∧ m.2 < 24 := fun m hm => made_spots s m (by rw [← hl]; exact hm)
  clear hg hp
  cbv
  rw [hne]
  cbv
  refine tri_loop hS (Cx.plain_ok _ _) (Nat.zero_le _) (fun m env H => ∃ (i : Nat) (et : List (Int × Bool)), i ≤ l.length ∧ m = l.length - i ∧
      (∀ k, getT et k = (l.take i).any (fun m => m.1 == k)) ∧
      env = mkE 73 [(5, .bool true), (6, vM false l), (7, vJ false p), (8, vJ false g), (9, .mp 0), (10, .int .i64 i)] ∧ H = [.map mIB et]) l.length
    (.keep [5, 6, 7, 8, 9, 10]) (Nat.zero_le _) ⟨0, [], Nat.zero_le _, rfl, fun _ => rfl, rfl, rfl⟩ ?_
  rintro m env H ⟨i, et, hi, rfl, het, rfl, rfl⟩ hh
  refine T_of_W (tab := tabM) (D := []) (tr := tr7) tabM_ok (Cx.plain_ok _ _) (by kernel_rfl) hh (fun z' S' Q' hz' hS' hQ => ?_)
  cbv
  rcases h1 : z' .lt (Int.ofNat i) (S' .len (Int × Int) l) with _ | _
  · have e : l.take i = l := by
      rw [hz', hS'] at h1
      have : ¬ (i : Int) < (l.length : Int) := of_decide_eq_false h1
      exact List.take_of_length_le (by omega)
    rw [e] at het
    cbv
    apply hQ
    clear hQ
    cbv
    refine tri_loop hS (Cx.plain_ok _ _) (Nat.zero_le _) (fun m env H => ∃ (i : Nat), i ≤ 40 ∧ m = 40 - i ∧
        env = mkE 73 [(5, .bool true), (7, vJ false p), (8, vJ false g), (9, .mp 0), (11, .int .i64 i)] ∧ H = [.map mIB et]) 40
      (.keep [5, 7, 8, 9, 11]) (Nat.zero_le _) ⟨0, Nat.zero_le _, rfl, rfl, rfl⟩ ?_
    rintro m env H ⟨k, hk, rfl, rfl, rfl⟩ hh
    refine T_of_W (tab := tabM) (D := []) (tr := tr7) tabM_ok (Cx.plain_ok _ _) (by kernel_rfl) hh (fun z2 S2 Q2 hz2 hS2 hQ2 => ?_)
    cbv
    rcases h2 : z2 .lt (Int.ofNat k) 40 with _ | _
    · cbv
      apply hQ2
      cbv
      exact hR _ _ _ _ (.drop 0 rfl (Nat.zero_le _)) ⟨rfl, rfl⟩
    · have hlt : k < 40 := by
        rw [hz2] at h2
        have : (k : Int) < (40 : Int) := of_decide_eq_true h2
        omega
      have einc : z2 .ar .add .i64 (Int.ofNat k) 1 = Int.ofNat (k + 1) := by rw [hz2]; exact rz_inc k (by omega)
      have eg : S2 .mget mIB et (mIB.kdec (.int .i64 (Int.ofNat k))) = l.any (fun m => m.1 == (k : Int)) := by rw [hS2]; exact het k
      have hdrw : ∀ H, S2 .drw H := fun H => by rw [hS2]; exact ⟨rfl, by kernel_rfl⟩
      have hig : S2 .idx Int g (Int.ofNat k) := by rw [hS2]; simp [reals]; omega
      have hip : S2 .idx Int p (Int.ofNat k) := by rw [hS2]; simp [reals]; omega
      have fin : ∀ env', keepE [5, 7, 8, 9, 11] env' = mkE 73 [(5, .bool true), (7, vJ false p), (8, vJ false g), (9, .mp 0), (11, .int .i64 (Int.ofNat (k + 1)))] → Q2 .norm env' [.map mIB et] := fun env' he => by
        apply hQ2
        exact ⟨_, _, _, by omega, .keep [5, 7, 8, 9, 11], k + 1, hlt, rfl, he, rfl⟩
      have hnn : l.any (fun m => m.1 == (k : Int)) = false → z2 .ne (S2 .at_ Int 0 g (z2 .nat (Int.ofNat k))) (S2 .at_ Int 0 p (z2 .nat (Int.ofNat k))) = false := fun h => by
        rw [hz2, hS2]
        show (g.getD k 0 != p.getD k 0) = false
        rw [hoth k hlt (fun m hm e => by
          have := List.any_eq_false.1 h m hm
          exact this (beq_iff_eq.2 e))]
        exact bne_self_eq_false _
      generalize l.any (fun m => m.1 == (k : Int)) = b at eg hnn
      clear hQ2 hR
      refine ⟨hdrw _, ?_⟩
      cbv
      rw [eg]
      cases b with
      | true =>
        cbv
        repeat' first
          | exact trivial
          | refine And.intro ?_ ?_
          | (cbv; rw [einc]; exact fin _ rfl)
      | false =>
        cbv
        rw [hnn rfl]
        repeat' first
          | exact trivial
          | exact hig
          | exact hip
          | refine And.intro ?_ ?_
          | (cbv; rw [einc]; exact fin _ rfl)
  · have hlt : i < l.length := by
      rw [hz', hS'] at h1
      have : (i : Int) < (l.length : Int) := of_decide_eq_true h1
      omega
    have einc : z' .ar .add .i64 (Int.ofNat i) 1 = Int.ofNat (i + 1) := by rw [hz']; exact rz_inc i (by omega)
    have eat : S' .at_ (Int × Int) (0, 0) l (z' .nat (Int.ofNat i)) = l.getD i (0, 0) := by rw [hS', hz']; rfl
    have hidx : S' .idx (Int × Int) l (Int.ofNat i) := by rw [hS']; simp [reals]; omega
    have hdrw : ∀ H, S' .drw H := fun H => by rw [hS']; exact ⟨rfl, by kernel_rfl⟩
    have hmem := getD_memM l (0, 0) hlt
    have hat1 := hat _ hmem
    have hsp1 := hsp _ hmem
    have hstep := fun k => any_takeTo l hlt k _ rfl
    have hnn : z' .ne (S' .at_ Int 0 g (z' .nat (l.getD i (0, 0)).1)) (S' .at_ Int 0 p (z' .nat (l.getD i (0, 0)).2)) = false := by
      rw [hz', hS']
      show (g.getD (l.getD i (0, 0)).1.toNat 0 != p.getD (l.getD i (0, 0)).2.toNat 0) = false
      rw [hat1]
      exact bne_self_eq_false _
    have hig : S' .idx Int g (l.getD i (0, 0)).1 := by rw [hS']; show 0 ≤ _ ∧ _ < (g.length : Int); omega
    have hip : S' .idx Int p (l.getD i (0, 0)).2 := by rw [hS']; show 0 ≤ _ ∧ _ < (p.length : Int); omega
    generalize l.getD i (0, 0) = mv at *
    obtain ⟨to, frm⟩ := mv
    have het' : ∀ k, getT (putT et to true) k = (l.take (i + 1)).any (fun m => m.1 == k) := fun k => by
      rw [getT_put, hstep, ← het k]
      by_cases h : k = to
      · rw [if_pos h, h]; simp
      · rw [if_neg h]
        have : (to == k) = false := beq_eq_false_iff_ne.2 (fun e => h e.symm)
        simp [this]
    have fin : ∀ env', keepE [5, 6, 7, 8, 9, 10] env' = mkE 73 [(5, .bool true), (6, vM false l), (7, vJ false p), (8, vJ false g), (9, .mp 0), (10, .int .i64 (Int.ofNat (i + 1)))] → Q' .norm env' [.map mIB (putT et to true)] := fun env' he => by
      apply hQ
      exact ⟨_, _, _, by omega, .keep [5, 6, 7, 8, 9, 10], i + 1, _, hlt, rfl, het', he, rfl⟩
    clear hQ hR
    refine ⟨hdrw _, ?_⟩
    cbv
    rw [eat]
    cbv
    rw [hnn]
    cbv
    repeat' first
      | exact trivial
      | exact hidx
      | exact hig
      | exact hip
      | refine And.intro ?_ ?_
      | (rw [einc, eat]; subst hz' hS'; exact fin _ rfl)
      | (cbv; rw [einc, eat]; subst hz' hS'; exact fin _ rfl)
end Go.Ab
