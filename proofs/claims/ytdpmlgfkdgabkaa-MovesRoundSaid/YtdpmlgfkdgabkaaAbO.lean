/- Contracts of the program's functions over an abstract state, and what they rest on: part AbO. No condition. -/
import Derived.Test.YtdpmlgfkdgabkaaAbN
set_option linter.unusedVariables false
set_option linter.unusedSimpArgs false

/- Places: Do. -/
namespace Go.Ab
open Go.Proofs

abbrev MacX := Mac × List Int
def encX (x : MacX) : List V := [.int .i64 x.1.op, .int .i64 x.1.d, .int .i64 x.1.e, .int .i64 x.1.a, .int .i64 x.1.b, .int .i64 x.1.c, .int .i32 x.1.imm, vInts x.2]
def mac0 : MacX := (⟨0, 0, 0, 0, 0, 0, 0⟩, [])
def vX (fl : Bool) (l : List MacX) : V := .sl MacX (⟨0, 0, 0, 0, 0, 0, 0⟩, []) 8 encX fl l

theorem LeV.macs (fl : Bool) (l : List Mac) : LeV (vK fl l) (vX fl (l.map fun m => (m, []))) := fun G w v r => by
  have h := r.sl_inv
  refine .sl _ _ _ _ _ _ _ ?_
  have e : (l.map fun m => ((m, []) : MacX)).map encX = l.map encK := by
    rw [List.map_map]; rfl
  rw [e]; exact h

/-- One instruction. -/
def doS (reg : Int → Int) (out : List Int) (m : Mac) : List Int :=
  if m.op = 1 then putR out (reg m.d) (atR out (reg m.a))
  else if m.op = 2 then putR (putR out (reg m.a) (atR out (reg m.b))) (reg m.b) (atR out (reg m.a))
  else if m.op = 30 then putR out (reg m.d) (atR out (slotR m.imm))
  else if m.op = 31 then putR out (slotR m.imm) (atR out (reg m.a))
  else if m.op = 3 ∨ m.op = 4 then putR out (reg m.d) m.imm
  else out

def doR (reg : Int → Int) (c : List Mac) (p : List Int) : List Int := c.foldl (doS reg) p

theorem at_reg (out : List Int) (n : Int) : atR out (regI n) = atR out (regR n) := by
  unfold regI regR
  by_cases h : n < 0
  · rw [if_neg (by omega), if_pos (.inl h), atR, if_pos (.inl h), atR, if_pos (.inl (by decide))]
  · by_cases h2 : 16 ≤ n
    · rw [if_pos h2, if_pos (.inr (by omega))]
    · rw [if_neg h2, if_neg (by omega)]

theorem put_reg (out : List Int) (n v : Int) : putR out (regI n) v = putR out (regR n) v := by
  unfold regI regR
  by_cases h : n < 0
  · rw [if_neg (by omega), if_pos (.inl h), putR, if_neg (fun h' => by omega), putR, if_neg (fun h' => by omega)]
  · by_cases h2 : 16 ≤ n
    · rw [if_pos h2, if_pos (.inr (by omega))]
    · rw [if_neg h2, if_neg (by omega)]

theorem doS_reg (out : List Int) (m : Mac) : doS regI out m = doS regR out m := by
  unfold doS
  simp only [at_reg, put_reg]

theorem doR_reg : ∀ (c : List Mac) (p : List Int), doR regI c p = doR regR c p
  | [], _ => rfl
  | m :: c, p => by
    show doR regI c (doS regI p m) = doR regR c (doS regR p m)
    rw [doS_reg, doR_reg c]

theorem doS_len (reg : Int → Int) (out : List Int) (m : Mac) : (doS reg out m).length = out.length := by
  unfold doS
  repeat' split
  all_goals simp [putR_len]


def tr23 : Nat → DT
  | 9 => (.take 0 (.take 1 (.take 2 (.take 5 (.take 6 (.take 7 (.alt 3 (.alt 4 (.alt 8 (.alt 9 (.alt 10 (.alt 11 .done .stop) .stop) .stop) .stop) (.alt 8 (.alt 4 (.alt 9 (.alt 10 (.alt 11 .done .stop) .stop) .stop) .stop) .stop)) (.alt 8 (.alt 3 (.alt 4 (.alt 9 (.alt 10 (.alt 11 .done .stop) .stop) .stop) .stop) .stop) .stop))))))))
  | 11 => (.take 0 (.take 1 (.take 2 (.take 6 (.take 7 (.take 8 (.alt 3 (.alt 4 (.alt 5 (.alt 9 (.alt 10 (.alt 11 (.take 12 (.take 13 .done)) .stop) .stop) .stop) (.alt 9 (.alt 5 (.alt 10 (.alt 11 (.take 12 (.take 13 .done)) .stop) .stop) .stop) .stop)) (.alt 9 (.alt 4 (.alt 5 (.alt 10 (.alt 11 (.take 12 (.take 13 .done)) .stop) .stop) .stop) .stop) .stop)) (.alt 9 (.alt 3 (.alt 4 (.alt 5 (.alt 10 (.alt 11 (.take 12 (.take 13 .done)) .stop) .stop) .stop) .stop) .stop) .stop))))))))
  | 15 => (.take 0 (.take 1 (.take 2 (.take 5 (.take 6 (.take 7 (.alt 3 (.alt 4 (.alt 8 (.alt 9 (.alt 10 (.alt 11 .done .stop) .stop) .stop) .stop) (.alt 8 (.alt 4 (.alt 9 (.alt 10 (.alt 11 .done .stop) .stop) .stop) .stop) .stop)) (.alt 8 (.alt 3 (.alt 4 (.alt 9 (.alt 10 (.alt 11 .done .stop) .stop) .stop) .stop) .stop) .stop))))))))
  | 17 => (.take 0 (.take 1 (.take 2 (.take 5 (.take 6 (.take 7 (.alt 3 (.alt 4 (.alt 8 (.alt 9 (.alt 10 (.alt 11 .done .stop) .stop) .stop) .stop) (.alt 8 (.alt 4 (.alt 9 (.alt 10 (.alt 11 .done .stop) .stop) .stop) .stop) .stop)) (.alt 8 (.alt 3 (.alt 4 (.alt 9 (.alt 10 (.alt 11 .done .stop) .stop) .stop) .stop) .stop) .stop))))))))
  | 20 => (.take 0 (.take 1 (.take 2 (.take 5 (.alt 3 (.alt 4 (.alt 6 (.alt 7 .done .stop) .stop) (.alt 6 (.alt 4 (.alt 7 .done .stop) .stop) .stop)) (.alt 6 (.alt 3 (.alt 4 (.alt 7 .done .stop) .stop) .stop) .stop))))))
  | _ => .stop

set_option maxHeartbeats 4000000 in
theorem do23_ct (yl : Nat) (fl fp : Bool) (c : List MacX) (p : List Int) (hl : c.length ≤ 100000) (hp : p.length ≤ 100000) : CT Try.prog (Cx.plain yl) noAr 23 [vX fl c, vJ fp p] [] (fun o H => ∃ n ys, ys = doR regI (c.map (·.1)) p ∧ n = ys.length ∧ o = .ret (.ref 0 1 0 n) ∧ H = [.arr 21 elJ ys]) := by
  refine CT_of_W (tab := tabM) (D := []) (tr := tr23) Try.func23 (by kernel_rfl) rfl tabM_ok (Cx.plain_ok _ _) (by kernel_rfl) (fun z S R hz hS hR => ?_)
  cbv
  refine use_ct [] hS (Cx.plain_ok _ _) rfl (fun yl => clone_ct yl fp p hp) (may_none []) ?_
  rintro o h' ⟨n, ys0, hys0, hn, rfl, rfl⟩
  cbv
  refine tri_loop hS (Cx.plain_ok _ _) (Nat.zero_le _) (fun m env H => ∃ (i k n : Nat) (ys : List Int), k = c.length ∧ i ≤ c.length ∧ m = c.length - i ∧ n = ys.length ∧ ys = (c.take i).foldl (fun out x => doS regI out x.1) p ∧
      env = mkE 105 [(5, .ref 0 1 0 n), (6, .fn 43 [] []), (7, .fn 44 [] []), (14, vX fl c), (15, .int .i64 k), (16, .int .i64 i)] ∧ H = [.arr 21 elJ ys]) c.length
    (.keep [5, 6, 7, 14, 15, 16]) (Nat.zero_le _) ⟨0, c.length, n, ys0, rfl, Nat.zero_le _, rfl, hn, hys0, by subst hS; rfl, rfl⟩ ?_
  rintro m env H ⟨i, k, n, ys, hk, hi, rfl, hn, hys, rfl, rfl⟩ hh
  refine T_of_W (tab := tabM) (D := []) (tr := tr23) tabM_ok (Cx.plain_ok _ _) (by kernel_rfl) hh (fun z' S' Q' hz' hS' hQ => ?_)
  cbv
  rcases h1 : z' .lt (Int.ofNat i) (Int.ofNat k) with _ | _
  · have e : c.take i = c := by
      rw [hz'] at h1
      have : ¬ (i : Int) < (k : Int) := of_decide_eq_false h1
      exact List.take_of_length_le (by omega)
    rw [e] at hys
    cbv
    apply hQ
    cbv
    exact hR _ _ _ _ (Wk.refl _ _) ⟨n, ys, by rw [hys, doR, List.foldl_map], hn, rfl, rfl⟩
  · have hlt : i < c.length := by
      rw [hz'] at h1
      have : (i : Int) < (k : Int) := of_decide_eq_true h1
      omega
    have hst := fold_take (fun out (x : MacX) => doS regI out x.1) p c mac0 hlt
    have einc : z' .ar .add .i64 (Int.ofNat i) 1 = Int.ofNat (i + 1) := by rw [hz']; exact rz_inc i (by omega)
    have eat : S' .at_ (Mac × List Int) (⟨0, 0, 0, 0, 0, 0, 0⟩, []) c (z' .nat (Int.ofNat i)) = c.getD i mac0 := by rw [hS', hz']; rfl
    have hdrw : ∀ H, S' .drw H := fun H => by rw [hS']; exact ⟨rfl, by kernel_rfl⟩
    have heqz : ∀ x y : Int, z' .eq x y = (x == y) := fun x y => by rw [hz']; rfl
    rw [← hys] at hst
    clear hys
    cbv
    refine ⟨by rw [hS']; simp [reals]; omega, ?_⟩
    rw [eat]
    generalize c.getD i mac0 = x at hst ⊢
    obtain ⟨⟨op, xd, xe, xa, xb, xc, xi⟩, ags⟩ := x
    have fin2 : ∀ zs env', zs = doS regI ys ⟨op, xd, xe, xa, xb, xc, xi⟩ → keepE [5, 6, 7, 14, 15, 16] env' = mkE 105 [(5, .ref 0 1 0 n), (6, .fn 43 [] []), (7, .fn 44 [] []), (14, vX fl c), (15, .int .i64 k), (16, .int .i64 (Int.ofNat (i + 1)))] →
        Q' .norm env' [.arr 21 elJ zs, .cells [.int .i64 op, .int .i64 xd, .int .i64 xe, .int .i64 xa, .int .i64 xb, .int .i64 xc, .int .i32 xi, vInts ags]] := fun zs env' h1 h2 => by
      apply hQ
      exact ⟨_, _, _, by omega, .trans (.keep [5, 6, 7, 14, 15, 16]) (.drop 1 (by rw [h2]; rfl) (Nat.zero_le _)), i + 1, k, n, zs, hk, hlt, rfl, by rw [h1, doS_len, hn], by rw [hst, h1], h2, rfl⟩
    cbv
    rcases g1 : z' .eq op 1 with _ | _
    · have g1' : ¬ op = 1 := beq_eq_false_iff_ne.1 (by rw [← heqz]; exact g1)
      cbv
      rcases g2 : z' .eq op 2 with _ | _
      · have g2' : ¬ op = 2 := beq_eq_false_iff_ne.1 (by rw [← heqz]; exact g2)
        cbv
        rcases g3 : z' .eq op 30 with _ | _
        · have g3' : ¬ op = 30 := beq_eq_false_iff_ne.1 (by rw [← heqz]; exact g3)
          cbv
          rcases g4 : z' .eq op 31 with _ | _
          · have g4' : ¬ op = 31 := beq_eq_false_iff_ne.1 (by rw [← heqz]; exact g4)
            cbv
            rcases g5 : z' .eq op 3 with _ | _
            · have g5' : ¬ op = 3 := beq_eq_false_iff_ne.1 (by rw [← heqz]; exact g5)
              cbv
              rcases g6 : z' .eq op 4 with _ | _
              · have g6' : ¬ op = 4 := beq_eq_false_iff_ne.1 (by rw [← heqz]; exact g6)
                cbv
                rw [einc]
                exact fin2 ys _ (by rw [doS, if_neg g1', if_neg g2', if_neg g3', if_neg g4', if_neg (fun h => h.elim g5' g6')]) rfl
              · have g6' : op = 4 := beq_iff_eq.1 (by rw [← heqz]; exact g6)
                have hbr : doS regI ys ⟨op, xd, xe, xa, xb, xc, xi⟩ = putR ys (regI xd) xi := by rw [doS, if_neg g1', if_neg g2', if_neg g3', if_neg g4', if_pos (.inr g6')]
                cbv
                repeat' first
                  | exact trivial
                  | exact hdrw _
                  | refine And.intro ?_ ?_
                  | (refine use_ct [] hS' (Cx.plain_ok _ _) rfl (fun yl => regI_ct yl xa) (may_none []) ?_; rintro o h' ⟨r, hr, rfl, rfl⟩; cbv)
                  | (refine use_ct [] hS' (Cx.plain_ok _ _) rfl (fun yl => regI_ct yl xb) (may_none []) ?_; rintro o h' ⟨r, hr, rfl, rfl⟩; cbv)
                  | (refine use_ct [] hS' (Cx.plain_ok _ _) rfl (fun yl => regI_ct yl xd) (may_none []) ?_; rintro o h' ⟨r, hr, rfl, rfl⟩; cbv)
                  | (refine use_ct [] hS' (Cx.plain_ok _ _) rfl (fun yl => slotI_ct yl xi) (may_none []) ?_; rintro o h' ⟨r, hr, rfl, rfl⟩; cbv)
                  | (refine use_ct [0] hS' (Cx.plain_ok _ _) rfl (fun yl => at42r_ct yl n ys _ hn) (may_none [0]) ?_; rintro o h' ⟨r, hr, rfl, rfl⟩; cbv)
                  | (refine use_ct [0] hS' (Cx.plain_ok _ _) rfl (fun yl => put41_ct yl n ys _ _ hn) (may_none [0]) ?_; rintro o h' ⟨zs, hzs, rfl, rfl⟩; cbv)
                  | (refine use_ct [0] hS' (Cx.plain_ok _ _) rfl (fun yl => put41_ct yl n zs _ _ (by rw [hzs, putR_len, hn])) (may_none [0]) ?_; rintro o h' ⟨zs2, hzs2, rfl, rfl⟩; cbv)
                  | (rw [einc]; exact fin2 zs2 _ (by rw [hbr]; first | done | (subst_vars; rfl)) rfl)
                  | (rw [einc]; exact fin2 zs _ (by rw [hbr]; first | done | (subst_vars; rfl)) rfl)

            · have g5' : op = 3 := beq_iff_eq.1 (by rw [← heqz]; exact g5)
              have hbr : doS regI ys ⟨op, xd, xe, xa, xb, xc, xi⟩ = putR ys (regI xd) xi := by rw [doS, if_neg g1', if_neg g2', if_neg g3', if_neg g4', if_pos (.inl g5')]
              cbv
              repeat' first
                | exact trivial
                | exact hdrw _
                | refine And.intro ?_ ?_
                | (refine use_ct [] hS' (Cx.plain_ok _ _) rfl (fun yl => regI_ct yl xa) (may_none []) ?_; rintro o h' ⟨r, hr, rfl, rfl⟩; cbv)
                | (refine use_ct [] hS' (Cx.plain_ok _ _) rfl (fun yl => regI_ct yl xb) (may_none []) ?_; rintro o h' ⟨r, hr, rfl, rfl⟩; cbv)
                | (refine use_ct [] hS' (Cx.plain_ok _ _) rfl (fun yl => regI_ct yl xd) (may_none []) ?_; rintro o h' ⟨r, hr, rfl, rfl⟩; cbv)
                | (refine use_ct [] hS' (Cx.plain_ok _ _) rfl (fun yl => slotI_ct yl xi) (may_none []) ?_; rintro o h' ⟨r, hr, rfl, rfl⟩; cbv)
                | (refine use_ct [0] hS' (Cx.plain_ok _ _) rfl (fun yl => at42r_ct yl n ys _ hn) (may_none [0]) ?_; rintro o h' ⟨r, hr, rfl, rfl⟩; cbv)
                | (refine use_ct [0] hS' (Cx.plain_ok _ _) rfl (fun yl => put41_ct yl n ys _ _ hn) (may_none [0]) ?_; rintro o h' ⟨zs, hzs, rfl, rfl⟩; cbv)
                | (refine use_ct [0] hS' (Cx.plain_ok _ _) rfl (fun yl => put41_ct yl n zs _ _ (by rw [hzs, putR_len, hn])) (may_none [0]) ?_; rintro o h' ⟨zs2, hzs2, rfl, rfl⟩; cbv)
                | (rw [einc]; exact fin2 zs2 _ (by rw [hbr]; first | done | (subst_vars; rfl)) rfl)
                | (rw [einc]; exact fin2 zs _ (by rw [hbr]; first | done | (subst_vars; rfl)) rfl)

          · have g4' : op = 31 := beq_iff_eq.1 (by rw [← heqz]; exact g4)
            have hbr : doS regI ys ⟨op, xd, xe, xa, xb, xc, xi⟩ = putR ys (slotR xi) (atR ys (regI xa)) := by rw [doS, if_neg g1', if_neg g2', if_neg g3', if_pos g4']
            cbv
            repeat' first
              | exact trivial
              | exact hdrw _
              | refine And.intro ?_ ?_
              | (refine use_ct [] hS' (Cx.plain_ok _ _) rfl (fun yl => regI_ct yl xa) (may_none []) ?_; rintro o h' ⟨r, hr, rfl, rfl⟩; cbv)
              | (refine use_ct [] hS' (Cx.plain_ok _ _) rfl (fun yl => regI_ct yl xb) (may_none []) ?_; rintro o h' ⟨r, hr, rfl, rfl⟩; cbv)
              | (refine use_ct [] hS' (Cx.plain_ok _ _) rfl (fun yl => regI_ct yl xd) (may_none []) ?_; rintro o h' ⟨r, hr, rfl, rfl⟩; cbv)
              | (refine use_ct [] hS' (Cx.plain_ok _ _) rfl (fun yl => slotI_ct yl xi) (may_none []) ?_; rintro o h' ⟨r, hr, rfl, rfl⟩; cbv)
              | (refine use_ct [0] hS' (Cx.plain_ok _ _) rfl (fun yl => at42r_ct yl n ys _ hn) (may_none [0]) ?_; rintro o h' ⟨r, hr, rfl, rfl⟩; cbv)
              | (refine use_ct [0] hS' (Cx.plain_ok _ _) rfl (fun yl => put41_ct yl n ys _ _ hn) (may_none [0]) ?_; rintro o h' ⟨zs, hzs, rfl, rfl⟩; cbv)
              | (refine use_ct [0] hS' (Cx.plain_ok _ _) rfl (fun yl => put41_ct yl n zs _ _ (by rw [hzs, putR_len, hn])) (may_none [0]) ?_; rintro o h' ⟨zs2, hzs2, rfl, rfl⟩; cbv)
              | (rw [einc]; exact fin2 zs2 _ (by rw [hbr]; first | done | (subst_vars; rfl)) rfl)
              | (rw [einc]; exact fin2 zs _ (by rw [hbr]; first | done | (subst_vars; rfl)) rfl)

        · have g3' : op = 30 := beq_iff_eq.1 (by rw [← heqz]; exact g3)
          have hbr : doS regI ys ⟨op, xd, xe, xa, xb, xc, xi⟩ = putR ys (regI xd) (atR ys (slotR xi)) := by rw [doS, if_neg g1', if_neg g2', if_pos g3']
          cbv
          repeat' first
            | exact trivial
            | exact hdrw _
            | refine And.intro ?_ ?_
            | (refine use_ct [] hS' (Cx.plain_ok _ _) rfl (fun yl => regI_ct yl xa) (may_none []) ?_; rintro o h' ⟨r, hr, rfl, rfl⟩; cbv)
            | (refine use_ct [] hS' (Cx.plain_ok _ _) rfl (fun yl => regI_ct yl xb) (may_none []) ?_; rintro o h' ⟨r, hr, rfl, rfl⟩; cbv)
            | (refine use_ct [] hS' (Cx.plain_ok _ _) rfl (fun yl => regI_ct yl xd) (may_none []) ?_; rintro o h' ⟨r, hr, rfl, rfl⟩; cbv)
            | (refine use_ct [] hS' (Cx.plain_ok _ _) rfl (fun yl => slotI_ct yl xi) (may_none []) ?_; rintro o h' ⟨r, hr, rfl, rfl⟩; cbv)
            | (refine use_ct [0] hS' (Cx.plain_ok _ _) rfl (fun yl => at42r_ct yl n ys _ hn) (may_none [0]) ?_; rintro o h' ⟨r, hr, rfl, rfl⟩; cbv)
            | (refine use_ct [0] hS' (Cx.plain_ok _ _) rfl (fun yl => put41_ct yl n ys _ _ hn) (may_none [0]) ?_; rintro o h' ⟨zs, hzs, rfl, rfl⟩; cbv)
            | (refine use_ct [0] hS' (Cx.plain_ok _ _) rfl (fun yl => put41_ct yl n zs _ _ (by rw [hzs, putR_len, hn])) (may_none [0]) ?_; rintro o h' ⟨zs2, hzs2, rfl, rfl⟩; cbv)
            | (rw [einc]; exact fin2 zs2 _ (by rw [hbr]; first | done | (subst_vars; rfl)) rfl)
            | (rw [einc]; exact fin2 zs _ (by rw [hbr]; first | done | (subst_vars; rfl)) rfl)

      · have g2' : op = 2 := beq_iff_eq.1 (by rw [← heqz]; exact g2)
        have hbr : doS regI ys ⟨op, xd, xe, xa, xb, xc, xi⟩ = putR (putR ys (regI xa) (atR ys (regI xb))) (regI xb) (atR ys (regI xa)) := by rw [doS, if_neg g1', if_pos g2']
        cbv
        repeat' first
          | exact trivial
          | exact hdrw _
          | refine And.intro ?_ ?_
          | (refine use_ct [] hS' (Cx.plain_ok _ _) rfl (fun yl => regI_ct yl xa) (may_none []) ?_; rintro o h' ⟨r, hr, rfl, rfl⟩; cbv)
          | (refine use_ct [] hS' (Cx.plain_ok _ _) rfl (fun yl => regI_ct yl xb) (may_none []) ?_; rintro o h' ⟨r, hr, rfl, rfl⟩; cbv)
          | (refine use_ct [] hS' (Cx.plain_ok _ _) rfl (fun yl => regI_ct yl xd) (may_none []) ?_; rintro o h' ⟨r, hr, rfl, rfl⟩; cbv)
          | (refine use_ct [] hS' (Cx.plain_ok _ _) rfl (fun yl => slotI_ct yl xi) (may_none []) ?_; rintro o h' ⟨r, hr, rfl, rfl⟩; cbv)
          | (refine use_ct [0] hS' (Cx.plain_ok _ _) rfl (fun yl => at42r_ct yl n ys _ hn) (may_none [0]) ?_; rintro o h' ⟨r, hr, rfl, rfl⟩; cbv)
          | (refine use_ct [0] hS' (Cx.plain_ok _ _) rfl (fun yl => put41_ct yl n ys _ _ hn) (may_none [0]) ?_; rintro o h' ⟨zs, hzs, rfl, rfl⟩; cbv)
          | (refine use_ct [0] hS' (Cx.plain_ok _ _) rfl (fun yl => put41_ct yl n zs _ _ (by rw [hzs, putR_len, hn])) (may_none [0]) ?_; rintro o h' ⟨zs2, hzs2, rfl, rfl⟩; cbv)
          | (rw [einc]; exact fin2 zs2 _ (by rw [hbr]; first | done | (subst_vars; rfl)) rfl)
          | (rw [einc]; exact fin2 zs _ (by rw [hbr]; first | done | (subst_vars; rfl)) rfl)

    · have g1' : op = 1 := beq_iff_eq.1 (by rw [← heqz]; exact g1)
      have hbr : doS regI ys ⟨op, xd, xe, xa, xb, xc, xi⟩ = putR ys (regI xd) (atR ys (regI xa)) := by rw [doS, if_pos g1']
      cbv
      repeat' first
        | exact trivial
        | exact hdrw _
        | refine And.intro ?_ ?_
        | (refine use_ct [] hS' (Cx.plain_ok _ _) rfl (fun yl => regI_ct yl xa) (may_none []) ?_; rintro o h' ⟨r, hr, rfl, rfl⟩; cbv)
        | (refine use_ct [] hS' (Cx.plain_ok _ _) rfl (fun yl => regI_ct yl xb) (may_none []) ?_; rintro o h' ⟨r, hr, rfl, rfl⟩; cbv)
        | (refine use_ct [] hS' (Cx.plain_ok _ _) rfl (fun yl => regI_ct yl xd) (may_none []) ?_; rintro o h' ⟨r, hr, rfl, rfl⟩; cbv)
        | (refine use_ct [] hS' (Cx.plain_ok _ _) rfl (fun yl => slotI_ct yl xi) (may_none []) ?_; rintro o h' ⟨r, hr, rfl, rfl⟩; cbv)
        | (refine use_ct [0] hS' (Cx.plain_ok _ _) rfl (fun yl => at42r_ct yl n ys _ hn) (may_none [0]) ?_; rintro o h' ⟨r, hr, rfl, rfl⟩; cbv)
        | (refine use_ct [0] hS' (Cx.plain_ok _ _) rfl (fun yl => put41_ct yl n ys _ _ hn) (may_none [0]) ?_; rintro o h' ⟨zs, hzs, rfl, rfl⟩; cbv)
        | (refine use_ct [0] hS' (Cx.plain_ok _ _) rfl (fun yl => put41_ct yl n zs _ _ (by rw [hzs, putR_len, hn])) (may_none [0]) ?_; rintro o h' ⟨zs2, hzs2, rfl, rfl⟩; cbv)
        | (rw [einc]; exact fin2 zs2 _ (by rw [hbr]; first | done | (subst_vars; rfl)) rfl)
        | (rw [einc]; exact fin2 zs _ (by rw [hbr]; first | done | (subst_vars; rfl)) rfl)


def tr24 : Nat → DT
  | 8 => (.take 0 (.take 1 (.take 4 (.take 5 (.alt 2 (.alt 3 (.alt 6 (.alt 7 (.alt 8 (.alt 9 .done .stop) .stop) .stop) .stop) (.alt 6 (.alt 3 (.alt 7 (.alt 8 (.alt 9 .done .stop) .stop) .stop) .stop) .stop)) (.alt 6 (.alt 2 (.alt 3 (.alt 7 (.alt 8 (.alt 9 .done .stop) .stop) .stop) .stop) .stop) .stop))))))
  | 15 => (.take 0 (.take 1 (.take 4 (.take 5 (.alt 2 (.alt 3 (.alt 6 (.alt 7 (.alt 8 (.alt 9 .done .stop) .stop) .stop) .stop) (.alt 6 (.alt 3 (.alt 7 (.alt 8 (.alt 9 .done .stop) .stop) .stop) .stop) .stop)) (.alt 6 (.alt 2 (.alt 3 (.alt 7 (.alt 8 (.alt 9 .done .stop) .stop) .stop) .stop) .stop) .stop))))))
  | 17 => (.take 0 (.take 1 (.take 4 (.take 5 (.alt 2 (.alt 3 (.alt 6 (.alt 7 (.alt 8 (.alt 9 .done .stop) .stop) .stop) .stop) (.alt 6 (.alt 3 (.alt 7 (.alt 8 (.alt 9 .done .stop) .stop) .stop) .stop) .stop)) (.alt 6 (.alt 2 (.alt 3 (.alt 7 (.alt 8 (.alt 9 .done .stop) .stop) .stop) .stop) .stop) .stop))))))
  | 20 => (.take 0 (.take 1 (.take 4 (.alt 2 (.alt 3 (.alt 5 (.alt 6 .done .stop) .stop) (.alt 5 (.alt 3 (.alt 6 .done .stop) .stop) .stop)) (.alt 5 (.alt 2 (.alt 3 (.alt 6 .done .stop) .stop) .stop) .stop)))))
  | _ => .stop

set_option maxHeartbeats 4000000 in
theorem do24_ct (yl : Nat) (fl fp : Bool) (c : List MacX) (p : List Int) (hl : c.length ≤ 100000) (hp : p.length ≤ 100000) : CT Try.prog (Cx.plain yl) noAr 24 [vX fl c, vJ fp p] [] (fun o H => ∃ n ys, ys = doR regR (c.map (·.1)) p ∧ n = ys.length ∧ o = .ret (.ref 0 1 0 n) ∧ H = [.arr 21 elJ ys]) := by
  refine CT_of_W (tab := tabM) (D := [10]) (tr := tr24) Try.func24 (by kernel_rfl) rfl tabM_ok (Cx.plain_ok _ _) (by kernel_rfl) (fun z S R hz hS hR => ?_)
  cbv
  refine ⟨fp, p, rfl, by rw [hz]; show 0 + p.length ≤ 1000000; omega, by rw [hS]; exact fun k hk => absurd hk (Nat.not_lt_zero _), ?_⟩
  refine tri_loop hS (Cx.plain_ok _ _) (Nat.zero_le _) (fun m env H => ∃ (i k n : Nat) (ys : List Int), k = c.length ∧ i ≤ c.length ∧ m = c.length - i ∧ n = ys.length ∧ ys = (c.take i).foldl (fun out x => doS regR out x.1) p ∧
      env = mkE 96 [(0, vX fl c), (5, .ref 0 1 0 n), (6, .int .i64 i)] ∧ H = [.arr 21 elJ ys]) c.length
    (.keep [0, 5, 6]) (Nat.zero_le _) ⟨0, c.length, p.length, p, rfl, Nat.zero_le _, rfl, rfl, rfl, by subst hz; rw [show realz .add 0 p.length = p.length from Nat.zero_add _]; rfl, by subst hS; rfl⟩ ?_
  rintro m env H ⟨i, k, n, ys, hk, hi, rfl, hn, hys, rfl, rfl⟩ hh
  refine T_of_W (tab := tabM) (D := [10]) (tr := tr24) tabM_ok (Cx.plain_ok _ _) (by kernel_rfl) hh (fun z' S' Q' hz' hS' hQ => ?_)
  cbv
  rcases h1 : z' .lt (Int.ofNat i) (S' .len (Mac × List Int) c) with _ | _
  · have e : c.take i = c := by
      rw [hz', hS'] at h1
      have : ¬ (i : Int) < (c.length : Int) := of_decide_eq_false h1
      exact List.take_of_length_le (by omega)
    rw [e] at hys
    cbv
    apply hQ
    cbv
    exact hR _ _ _ _ (Wk.refl _ _) ⟨n, ys, by rw [hys, doR, List.foldl_map], hn, rfl, rfl⟩
  · have hlt : i < c.length := by
      rw [hz', hS'] at h1
      have : (i : Int) < (c.length : Int) := of_decide_eq_true h1
      omega
    have hst := fold_take (fun out (x : MacX) => doS regR out x.1) p c mac0 hlt
    have einc : z' .ar .add .i64 (Int.ofNat i) 1 = Int.ofNat (i + 1) := by rw [hz']; exact rz_inc i (by omega)
    have eat : S' .at_ (Mac × List Int) (⟨0, 0, 0, 0, 0, 0, 0⟩, []) c (z' .nat (Int.ofNat i)) = c.getD i mac0 := by rw [hS', hz']; rfl
    have hdrw : ∀ H, S' .drw H := fun H => by rw [hS']; exact ⟨rfl, by kernel_rfl⟩
    have heqz : ∀ x y : Int, z' .eq x y = (x == y) := fun x y => by rw [hz']; rfl
    rw [← hys] at hst
    clear hys
    cbv
    refine ⟨by rw [hS']; simp [reals]; omega, ?_⟩
    rw [eat]
    generalize c.getD i mac0 = x at hst ⊢
    obtain ⟨⟨op, xd, xe, xa, xb, xc, xi⟩, ags⟩ := x
    have fin2 : ∀ zs env', zs = doS regR ys ⟨op, xd, xe, xa, xb, xc, xi⟩ → keepE [0, 5, 6] env' = mkE 96 [(0, vX fl c), (5, .ref 0 1 0 n), (6, .int .i64 (Int.ofNat (i + 1)))] →
        Q' .norm env' [.arr 21 elJ zs, .cells [.int .i64 op, .int .i64 xd, .int .i64 xe, .int .i64 xa, .int .i64 xb, .int .i64 xc, .int .i32 xi, vInts ags]] := fun zs env' h1 h2 => by
      apply hQ
      exact ⟨_, _, _, by omega, .trans (.keep [0, 5, 6]) (.drop 1 (by rw [h2]; rfl) (Nat.zero_le _)), i + 1, k, n, zs, hk, hlt, rfl, by rw [h1, doS_len, hn], by rw [hst, h1], h2, rfl⟩
    cbv
    rcases g1 : z' .eq op 1 with _ | _
    · have g1' : ¬ op = 1 := beq_eq_false_iff_ne.1 (by rw [← heqz]; exact g1)
      cbv
      rcases g2 : z' .eq op 2 with _ | _
      · have g2' : ¬ op = 2 := beq_eq_false_iff_ne.1 (by rw [← heqz]; exact g2)
        cbv
        rcases g3 : z' .eq op 30 with _ | _
        · have g3' : ¬ op = 30 := beq_eq_false_iff_ne.1 (by rw [← heqz]; exact g3)
          cbv
          rcases g4 : z' .eq op 31 with _ | _
          · have g4' : ¬ op = 31 := beq_eq_false_iff_ne.1 (by rw [← heqz]; exact g4)
            cbv
            rcases g5 : z' .eq op 3 with _ | _
            · have g5' : ¬ op = 3 := beq_eq_false_iff_ne.1 (by rw [← heqz]; exact g5)
              cbv
              rcases g6 : z' .eq op 4 with _ | _
              · have g6' : ¬ op = 4 := beq_eq_false_iff_ne.1 (by rw [← heqz]; exact g6)
                cbv
                rw [einc]
                exact fin2 ys _ (by rw [doS, if_neg g1', if_neg g2', if_neg g3', if_neg g4', if_neg (fun h => h.elim g5' g6')]) rfl
              · have g6' : op = 4 := beq_iff_eq.1 (by rw [← heqz]; exact g6)
                have hbr : doS regR ys ⟨op, xd, xe, xa, xb, xc, xi⟩ = putR ys (regR xd) xi := by rw [doS, if_neg g1', if_neg g2', if_neg g3', if_neg g4', if_pos (.inr g6')]
                cbv
                repeat' first
                  | exact trivial
                  | exact hdrw _
                  | refine And.intro ?_ ?_
                  | (refine use_ct [] hS' (Cx.plain_ok _ _) rfl (fun yl => regR_ct yl xa) (may_none []) ?_; rintro o h' ⟨r, hr, rfl, rfl⟩; cbv)
                  | (refine use_ct [] hS' (Cx.plain_ok _ _) rfl (fun yl => regR_ct yl xb) (may_none []) ?_; rintro o h' ⟨r, hr, rfl, rfl⟩; cbv)
                  | (refine use_ct [] hS' (Cx.plain_ok _ _) rfl (fun yl => regR_ct yl xd) (may_none []) ?_; rintro o h' ⟨r, hr, rfl, rfl⟩; cbv)
                  | (refine use_ct [] hS' (Cx.plain_ok _ _) rfl (fun yl => slotR_ct yl xi) (may_none []) ?_; rintro o h' ⟨r, hr, rfl, rfl⟩; cbv)
                  | (refine use_ct [0] hS' (Cx.plain_ok _ _) rfl (fun yl => at47r_ct yl n ys _ hn) (may_none [0]) ?_; rintro o h' ⟨r, hr, rfl, rfl⟩; cbv)
                  | (refine use_ct [0] hS' (Cx.plain_ok _ _) rfl (fun yl => put45_ct yl n ys _ _ hn) (may_none [0]) ?_; rintro o h' ⟨zs, hzs, rfl, rfl⟩; cbv)
                  | (refine use_ct [0] hS' (Cx.plain_ok _ _) rfl (fun yl => put45_ct yl n zs _ _ (by rw [hzs, putR_len, hn])) (may_none [0]) ?_; rintro o h' ⟨zs2, hzs2, rfl, rfl⟩; cbv)
                  | (rw [einc]; exact fin2 zs2 _ (by rw [hbr]; first | done | (subst_vars; rfl)) rfl)
                  | (rw [einc]; exact fin2 zs _ (by rw [hbr]; first | done | (subst_vars; rfl)) rfl)

            · have g5' : op = 3 := beq_iff_eq.1 (by rw [← heqz]; exact g5)
              have hbr : doS regR ys ⟨op, xd, xe, xa, xb, xc, xi⟩ = putR ys (regR xd) xi := by rw [doS, if_neg g1', if_neg g2', if_neg g3', if_neg g4', if_pos (.inl g5')]
              cbv
              repeat' first
                | exact trivial
                | exact hdrw _
                | refine And.intro ?_ ?_
                | (refine use_ct [] hS' (Cx.plain_ok _ _) rfl (fun yl => regR_ct yl xa) (may_none []) ?_; rintro o h' ⟨r, hr, rfl, rfl⟩; cbv)
                | (refine use_ct [] hS' (Cx.plain_ok _ _) rfl (fun yl => regR_ct yl xb) (may_none []) ?_; rintro o h' ⟨r, hr, rfl, rfl⟩; cbv)
                | (refine use_ct [] hS' (Cx.plain_ok _ _) rfl (fun yl => regR_ct yl xd) (may_none []) ?_; rintro o h' ⟨r, hr, rfl, rfl⟩; cbv)
                | (refine use_ct [] hS' (Cx.plain_ok _ _) rfl (fun yl => slotR_ct yl xi) (may_none []) ?_; rintro o h' ⟨r, hr, rfl, rfl⟩; cbv)
                | (refine use_ct [0] hS' (Cx.plain_ok _ _) rfl (fun yl => at47r_ct yl n ys _ hn) (may_none [0]) ?_; rintro o h' ⟨r, hr, rfl, rfl⟩; cbv)
                | (refine use_ct [0] hS' (Cx.plain_ok _ _) rfl (fun yl => put45_ct yl n ys _ _ hn) (may_none [0]) ?_; rintro o h' ⟨zs, hzs, rfl, rfl⟩; cbv)
                | (refine use_ct [0] hS' (Cx.plain_ok _ _) rfl (fun yl => put45_ct yl n zs _ _ (by rw [hzs, putR_len, hn])) (may_none [0]) ?_; rintro o h' ⟨zs2, hzs2, rfl, rfl⟩; cbv)
                | (rw [einc]; exact fin2 zs2 _ (by rw [hbr]; first | done | (subst_vars; rfl)) rfl)
                | (rw [einc]; exact fin2 zs _ (by rw [hbr]; first | done | (subst_vars; rfl)) rfl)

          · have g4' : op = 31 := beq_iff_eq.1 (by rw [← heqz]; exact g4)
            have hbr : doS regR ys ⟨op, xd, xe, xa, xb, xc, xi⟩ = putR ys (slotR xi) (atR ys (regR xa)) := by rw [doS, if_neg g1', if_neg g2', if_neg g3', if_pos g4']
            cbv
            repeat' first
              | exact trivial
              | exact hdrw _
              | refine And.intro ?_ ?_
              | (refine use_ct [] hS' (Cx.plain_ok _ _) rfl (fun yl => regR_ct yl xa) (may_none []) ?_; rintro o h' ⟨r, hr, rfl, rfl⟩; cbv)
              | (refine use_ct [] hS' (Cx.plain_ok _ _) rfl (fun yl => regR_ct yl xb) (may_none []) ?_; rintro o h' ⟨r, hr, rfl, rfl⟩; cbv)
              | (refine use_ct [] hS' (Cx.plain_ok _ _) rfl (fun yl => regR_ct yl xd) (may_none []) ?_; rintro o h' ⟨r, hr, rfl, rfl⟩; cbv)
              | (refine use_ct [] hS' (Cx.plain_ok _ _) rfl (fun yl => slotR_ct yl xi) (may_none []) ?_; rintro o h' ⟨r, hr, rfl, rfl⟩; cbv)
              | (refine use_ct [0] hS' (Cx.plain_ok _ _) rfl (fun yl => at47r_ct yl n ys _ hn) (may_none [0]) ?_; rintro o h' ⟨r, hr, rfl, rfl⟩; cbv)
              | (refine use_ct [0] hS' (Cx.plain_ok _ _) rfl (fun yl => put45_ct yl n ys _ _ hn) (may_none [0]) ?_; rintro o h' ⟨zs, hzs, rfl, rfl⟩; cbv)
              | (refine use_ct [0] hS' (Cx.plain_ok _ _) rfl (fun yl => put45_ct yl n zs _ _ (by rw [hzs, putR_len, hn])) (may_none [0]) ?_; rintro o h' ⟨zs2, hzs2, rfl, rfl⟩; cbv)
              | (rw [einc]; exact fin2 zs2 _ (by rw [hbr]; first | done | (subst_vars; rfl)) rfl)
              | (rw [einc]; exact fin2 zs _ (by rw [hbr]; first | done | (subst_vars; rfl)) rfl)

        · have g3' : op = 30 := beq_iff_eq.1 (by rw [← heqz]; exact g3)
          have hbr : doS regR ys ⟨op, xd, xe, xa, xb, xc, xi⟩ = putR ys (regR xd) (atR ys (slotR xi)) := by rw [doS, if_neg g1', if_neg g2', if_pos g3']
          cbv
          repeat' first
            | exact trivial
            | exact hdrw _
            | refine And.intro ?_ ?_
            | (refine use_ct [] hS' (Cx.plain_ok _ _) rfl (fun yl => regR_ct yl xa) (may_none []) ?_; rintro o h' ⟨r, hr, rfl, rfl⟩; cbv)
            | (refine use_ct [] hS' (Cx.plain_ok _ _) rfl (fun yl => regR_ct yl xb) (may_none []) ?_; rintro o h' ⟨r, hr, rfl, rfl⟩; cbv)
            | (refine use_ct [] hS' (Cx.plain_ok _ _) rfl (fun yl => regR_ct yl xd) (may_none []) ?_; rintro o h' ⟨r, hr, rfl, rfl⟩; cbv)
            | (refine use_ct [] hS' (Cx.plain_ok _ _) rfl (fun yl => slotR_ct yl xi) (may_none []) ?_; rintro o h' ⟨r, hr, rfl, rfl⟩; cbv)
            | (refine use_ct [0] hS' (Cx.plain_ok _ _) rfl (fun yl => at47r_ct yl n ys _ hn) (may_none [0]) ?_; rintro o h' ⟨r, hr, rfl, rfl⟩; cbv)
            | (refine use_ct [0] hS' (Cx.plain_ok _ _) rfl (fun yl => put45_ct yl n ys _ _ hn) (may_none [0]) ?_; rintro o h' ⟨zs, hzs, rfl, rfl⟩; cbv)
            | (refine use_ct [0] hS' (Cx.plain_ok _ _) rfl (fun yl => put45_ct yl n zs _ _ (by rw [hzs, putR_len, hn])) (may_none [0]) ?_; rintro o h' ⟨zs2, hzs2, rfl, rfl⟩; cbv)
            | (rw [einc]; exact fin2 zs2 _ (by rw [hbr]; first | done | (subst_vars; rfl)) rfl)
            | (rw [einc]; exact fin2 zs _ (by rw [hbr]; first | done | (subst_vars; rfl)) rfl)

      · have g2' : op = 2 := beq_iff_eq.1 (by rw [← heqz]; exact g2)
        have hbr : doS regR ys ⟨op, xd, xe, xa, xb, xc, xi⟩ = putR (putR ys (regR xa) (atR ys (regR xb))) (regR xb) (atR ys (regR xa)) := by rw [doS, if_neg g1', if_pos g2']
        cbv
        repeat' first
          | exact trivial
          | exact hdrw _
          | refine And.intro ?_ ?_
          | (refine use_ct [] hS' (Cx.plain_ok _ _) rfl (fun yl => regR_ct yl xa) (may_none []) ?_; rintro o h' ⟨r, hr, rfl, rfl⟩; cbv)
          | (refine use_ct [] hS' (Cx.plain_ok _ _) rfl (fun yl => regR_ct yl xb) (may_none []) ?_; rintro o h' ⟨r, hr, rfl, rfl⟩; cbv)
          | (refine use_ct [] hS' (Cx.plain_ok _ _) rfl (fun yl => regR_ct yl xd) (may_none []) ?_; rintro o h' ⟨r, hr, rfl, rfl⟩; cbv)
          | (refine use_ct [] hS' (Cx.plain_ok _ _) rfl (fun yl => slotR_ct yl xi) (may_none []) ?_; rintro o h' ⟨r, hr, rfl, rfl⟩; cbv)
          | (refine use_ct [0] hS' (Cx.plain_ok _ _) rfl (fun yl => at47r_ct yl n ys _ hn) (may_none [0]) ?_; rintro o h' ⟨r, hr, rfl, rfl⟩; cbv)
          | (refine use_ct [0] hS' (Cx.plain_ok _ _) rfl (fun yl => put45_ct yl n ys _ _ hn) (may_none [0]) ?_; rintro o h' ⟨zs, hzs, rfl, rfl⟩; cbv)
          | (refine use_ct [0] hS' (Cx.plain_ok _ _) rfl (fun yl => put45_ct yl n zs _ _ (by rw [hzs, putR_len, hn])) (may_none [0]) ?_; rintro o h' ⟨zs2, hzs2, rfl, rfl⟩; cbv)
          | (rw [einc]; exact fin2 zs2 _ (by rw [hbr]; first | done | (subst_vars; rfl)) rfl)
          | (rw [einc]; exact fin2 zs _ (by rw [hbr]; first | done | (subst_vars; rfl)) rfl)

    · have g1' : op = 1 := beq_iff_eq.1 (by rw [← heqz]; exact g1)
      have hbr : doS regR ys ⟨op, xd, xe, xa, xb, xc, xi⟩ = putR ys (regR xd) (atR ys (regR xa)) := by rw [doS, if_pos g1']
      cbv
      repeat' first
        | exact trivial
        | exact hdrw _
        | refine And.intro ?_ ?_
        | (refine use_ct [] hS' (Cx.plain_ok _ _) rfl (fun yl => regR_ct yl xa) (may_none []) ?_; rintro o h' ⟨r, hr, rfl, rfl⟩; cbv)
        | (refine use_ct [] hS' (Cx.plain_ok _ _) rfl (fun yl => regR_ct yl xb) (may_none []) ?_; rintro o h' ⟨r, hr, rfl, rfl⟩; cbv)
        | (refine use_ct [] hS' (Cx.plain_ok _ _) rfl (fun yl => regR_ct yl xd) (may_none []) ?_; rintro o h' ⟨r, hr, rfl, rfl⟩; cbv)
        | (refine use_ct [] hS' (Cx.plain_ok _ _) rfl (fun yl => slotR_ct yl xi) (may_none []) ?_; rintro o h' ⟨r, hr, rfl, rfl⟩; cbv)
        | (refine use_ct [0] hS' (Cx.plain_ok _ _) rfl (fun yl => at47r_ct yl n ys _ hn) (may_none [0]) ?_; rintro o h' ⟨r, hr, rfl, rfl⟩; cbv)
        | (refine use_ct [0] hS' (Cx.plain_ok _ _) rfl (fun yl => put45_ct yl n ys _ _ hn) (may_none [0]) ?_; rintro o h' ⟨zs, hzs, rfl, rfl⟩; cbv)
        | (refine use_ct [0] hS' (Cx.plain_ok _ _) rfl (fun yl => put45_ct yl n zs _ _ (by rw [hzs, putR_len, hn])) (may_none [0]) ?_; rintro o h' ⟨zs2, hzs2, rfl, rfl⟩; cbv)
        | (rw [einc]; exact fin2 zs2 _ (by rw [hbr]; first | done | (subst_vars; rfl)) rfl)
        | (rw [einc]; exact fin2 zs _ (by rw [hbr]; first | done | (subst_vars; rfl)) rfl)

end Go.Ab
