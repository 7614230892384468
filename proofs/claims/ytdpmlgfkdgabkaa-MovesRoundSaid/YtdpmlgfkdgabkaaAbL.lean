/- Contracts of the program's functions over an abstract state, and what they rest on: part AbL. No condition. -/
import Derived.Test.YtdpmlgfkdgabkaaAbK
set_option linter.unusedVariables false
set_option linter.unusedSimpArgs false

/- awake; MovesOrders. -/
namespace Go.Ab
open Go.Proofs

theorem awake1 : orderR [(2, 1), (1, 0)] (-1) (-1) = ([movM 2 1, movM 1 0], 0) := by decide
theorem awake2 : orderR [(0, 1), (1, 0)] 5 (-1) = ([movM 5 0, movM 0 1, movM 1 5], 0) := by decide
theorem awake3 : orderR [(16, 17)] (-1) 7 = ([storeM 0 24, loadM 0 17, storeM 0 16, loadM 0 24], 0) := by decide
theorem awake4 : orderR [(16, 17)] (-1) (-1) = ([], 43) := by decide

theorem awake_ct (yl : Nat) : CT Try.prog (Cx.plain yl) noAr 12 [] [] (fun o H => o = .ret (.bool true) ∧ H = []) := by
  refine CT_of_W (tab := tabM) (D := []) (tr := noTr) Try.func12 (by kernel_rfl) rfl tabM_ok (Cx.plain_ok _ _) (by kernel_rfl) (fun z S R hz hS hR => ?_)
  have heq : ∀ x : Int, z .eq x x = true := fun x => by rw [hz]; exact beq_self_eq_true x
  cbv
  refine use_ct [] hS (Cx.plain_ok _ _) rfl (fun yl => CT.le (order17_ct yl true [(2, 1), (1, 0)] (-1) (-1) (by decide) (by decide)) ⟨LeV.lit rfl, LeV.refl _, LeV.refl _, trivial⟩) (may_none []) ?_
  rw [awake1]
  generalize hA : [movM 2 1, movM 1 0] = A
  have lA : A.length ≤ 100000 := by rw [← hA]; decide
  rintro o h' ⟨rfl, rfl⟩
  cbv
  refine use_ct [] hS (Cx.plain_ok _ _) rfl (fun yl => CT.le (order17_ct yl true [(0, 1), (1, 0)] 5 (-1) (by decide) (by decide)) ⟨LeV.lit rfl, LeV.refl _, LeV.refl _, trivial⟩) (may_none []) ?_
  rw [awake2]
  generalize hB : [movM 5 0, movM 0 1, movM 1 5] = B
  have lB : B.length ≤ 100000 := by rw [← hB]; decide
  rintro o h' ⟨rfl, rfl⟩
  cbv
  refine use_ct [] hS (Cx.plain_ok _ _) rfl (fun yl => CT.le (order17_ct yl true [(16, 17)] (-1) 7 (by decide) (by decide)) ⟨LeV.lit rfl, LeV.refl _, LeV.refl _, trivial⟩) (may_none []) ?_
  rw [awake3]
  generalize hC : [storeM 0 24, loadM 0 17, storeM 0 16, loadM 0 24] = C
  have lC : C.length ≤ 100000 := by rw [← hC]; decide
  rintro o h' ⟨rfl, rfl⟩
  cbv
  refine use_ct [] hS (Cx.plain_ok _ _) rfl (fun yl => CT.le (order17_ct yl true [(16, 17)] (-1) (-1) (by decide) (by decide)) ⟨LeV.lit rfl, LeV.refl _, LeV.refl _, trivial⟩) (may_none []) ?_
  rw [awake4]
  rintro o h' ⟨rfl, rfl⟩
  cbv
  refine use_ct [] hS (Cx.plain_ok _ _) rfl (fun yl => CT.le (same_ct yl false true A lA) ⟨LeV.refl _, LeV.lit (by rw [← hA]; rfl), trivial⟩) (may_none []) ?_
  rintro o h' ⟨rfl, rfl⟩
  cbv
  refine use_ct [] hS (Cx.plain_ok _ _) rfl (fun yl => CT.le (same_ct yl false true B lB) ⟨LeV.refl _, LeV.lit (by rw [← hB]; rfl), trivial⟩) (may_none []) ?_
  rintro o h' ⟨rfl, rfl⟩
  cbv
  refine use_ct [] hS (Cx.plain_ok _ _) rfl (fun yl => CT.le (same_ct yl false true C lC) ⟨LeV.refl _, LeV.lit (by rw [← hC]; rfl), trivial⟩) (may_none []) ?_
  rintro o h' ⟨rfl, rfl⟩
  cbv
  rw [heq]
  cbv
  rw [heq]
  cbv
  rw [heq]
  cbv
  rw [heq]
  cbv
  exact hR _ _ _ _ (Wk.refl _ _) ⟨rfl, rfl⟩

def tr3 : Nat → DT := fun _ => (.take 0 (.take 2 (.take 4 (.alt 1 (.alt 3 (.alt 5 (.alt 6 (.take 7 (.take 8 (.take 9 (.take 11 (.alt 10 (.alt 12 (.alt 13 (.take 14 (.take 15 .done)) .stop) .stop) (.alt 12 (.alt 10 (.alt 13 (.take 14 (.take 15 .done)) .stop) .stop) .stop)))))) .stop) .stop) (.alt 5 (.alt 3 (.alt 6 (.take 7 (.take 8 (.take 9 (.take 11 (.alt 10 (.alt 12 (.alt 13 (.take 14 (.take 15 .done)) .stop) .stop) (.alt 12 (.alt 10 (.alt 13 (.take 14 (.take 15 .done)) .stop) .stop) .stop)))))) .stop) .stop) .stop)) (.alt 3 (.alt 1 (.alt 5 (.alt 6 (.take 7 (.take 8 (.take 9 (.take 11 (.alt 10 (.alt 12 (.alt 13 (.take 14 (.take 15 .done)) .stop) .stop) (.alt 12 (.alt 10 (.alt 13 (.take 14 (.take 15 .done)) .stop) .stop) .stop)))))) .stop) .stop) (.alt 5 (.alt 1 (.alt 6 (.take 7 (.take 8 (.take 9 (.take 11 (.alt 10 (.alt 12 (.alt 13 (.take 14 (.take 15 .done)) .stop) .stop) (.alt 12 (.alt 10 (.alt 13 (.take 14 (.take 15 .done)) .stop) .stop) .stop)))))) .stop) .stop) .stop)) (.alt 5 (.alt 1 (.alt 3 (.alt 6 (.take 7 (.take 8 (.take 9 (.take 11 (.alt 10 (.alt 12 (.alt 13 (.take 14 (.take 15 .done)) .stop) .stop) (.alt 12 (.alt 10 (.alt 13 (.take 14 (.take 15 .done)) .stop) .stop) .stop)))))) .stop) .stop) (.alt 3 (.alt 1 (.alt 6 (.take 7 (.take 8 (.take 9 (.take 11 (.alt 10 (.alt 12 (.alt 13 (.take 14 (.take 15 .done)) .stop) .stop) (.alt 12 (.alt 10 (.alt 13 (.take 14 (.take 15 .done)) .stop) .stop) .stop)))))) .stop) .stop) .stop)) .stop))))))

set_option maxHeartbeats 8000000 in
set_option maxHeartbeats 8000000 in
theorem orders_ct (yl : Nat) (fl fs : Bool) (l : List Move) (s : List Int) (q0 q1 : Int) (h4 : -9223372036854775808 ≤ q1) : CT Try.prog (Cx.plain yl) noAr 3 [vM fl l, vI fs s, .agg [.int .i64 q0, .int .i64 q1]] [] (fun o H => o = .ret (.bool true) ∧ H = []) := by
  refine CT_of_W (tab := tabM) (D := []) (tr := tr3) Try.func3 (by kernel_rfl) rfl tabM_ok (Cx.plain_ok _ _) (by kernel_rfl) (fun z S R hz hS hR => ?_)
  cbv
  refine use_ct [] hS (Cx.plain_ok _ _) rfl (fun yl => awake_ct yl) (may_none []) ?_
  rintro o h' ⟨rfl, rfl⟩
  cbv
  refine use_ct [] hS (Cx.plain_ok _ _) rfl (fun yl => made_ct yl fs s) (may_none []) ?_
  rintro o h' ⟨x, hx, rfl, rfl⟩
  have hxl : x.length ≤ 24 := by
    have := madeTo_len s (min s.length 20)
    rw [hx]; unfold madeR; omega
  cbv
  refine ⟨by rw [hS]; exact ⟨rfl, by kernel_rfl⟩, ?_⟩
  repeat' first
    | exact trivial
    | refine And.intro ?_ ?_
    | (refine use_ct [] hS (Cx.plain_ok _ _) rfl (fun yl => few_ct yl fl l) (may_none []) ?_; rintro o h' ⟨l', hl', rfl, rfl⟩; cbv)
    | (refine use_ct [] hS (Cx.plain_ok _ _) rfl (fun yl => tells_ct yl false l' q0 q1 (by rw [hl', List.length_take]; omega) h4) (may_none []) ?_; rintro o h' ⟨rfl, rfl⟩; cbv)
    | (refine use_ct [] hS (Cx.plain_ok _ _) rfl (fun yl => tells_ct yl false x q0 q1 hxl h4) (may_none []) ?_; rintro o h' ⟨rfl, rfl⟩; cbv)
    | (refine use_ct [] hS (Cx.plain_ok _ _) rfl (fun yl => tells_ct yl false x 15 10 hxl (by decide)) (may_none []) ?_; rintro o h' ⟨rfl, rfl⟩; cbv)
    | (refine use_ct [] hS (Cx.plain_ok _ _) rfl (fun yl => tells_ct yl false x (-1) 10 hxl (by decide)) (may_none []) ?_; rintro o h' ⟨rfl, rfl⟩; cbv)
    | (refine use_ct [] hS (Cx.plain_ok _ _) rfl (fun yl => tells_ct yl false x 15 (-1) hxl (by decide)) (may_none []) ?_; rintro o h' ⟨rfl, rfl⟩; cbv)
    | (refine use_ct [] hS (Cx.plain_ok _ _) rfl (fun yl => tells_ct yl false x (-1) (-1) hxl (by decide)) (may_none []) ?_; rintro o h' ⟨rfl, rfl⟩; cbv)
    | exact hR _ _ _ _ (.drop 0 rfl (Nat.zero_le _)) ⟨rfl, rfl⟩
end Go.Ab
