/- Contracts of the program's functions over an abstract state, and what they rest on: part AbE. No condition. -/
import Derived.Test.YtdpmlgfkdgabkaaAbD
set_option linter.unusedVariables false
set_option linter.unusedSimpArgs false

/- The reference: bring. -/
namespace Go.Ab
open Go.Proofs

def tr51 : Nat → DT
  | 4 => (.take 0 (.take 1 (.take 2 (.take 3 (.take 5 (.take 6 (.alt 4 (.alt 7 (.alt 8 (.alt 9 (.take 10 (.take 11 (.alt 12 .done .stop))) .stop) .stop) .stop) (.alt 7 (.alt 4 (.alt 8 (.alt 9 (.take 10 (.take 11 (.alt 12 .done .stop))) .stop) .stop) (.alt 8 (.alt 4 (.alt 9 (.take 10 (.take 11 (.alt 12 .done .stop))) .stop) .stop) .stop)) .stop))))))))
  | 6 => (.take 0 (.take 1 (.take 2 (.take 3 (.take 5 (.take 6 (.alt 4 (.alt 7 (.alt 8 (.alt 9 (.take 10 (.take 11 (.alt 12 .done .stop))) .stop) .stop) .stop) (.alt 7 (.alt 4 (.alt 8 (.alt 9 (.take 10 (.take 11 (.alt 12 .done .stop))) .stop) .stop) (.alt 8 (.alt 4 (.alt 9 (.take 10 (.take 11 (.alt 12 .done .stop))) .stop) .stop) .stop)) .stop))))))))
  | 8 => (.take 0 (.take 1 (.take 2 (.take 3 (.take 5 (.take 6 (.take 7 (.take 9 (.take 11 (.take 12 (.take 13 (.take 15 (.alt 4 (.alt 8 (.alt 10 (.alt 14 (.alt 16 (.alt 17 (.alt 18 (.take 19 (.take 20 (.alt 21 .done .stop))) .stop) .stop) .stop) .stop) (.alt 14 (.alt 10 (.alt 16 (.alt 17 (.alt 18 (.take 19 (.take 20 (.alt 21 .done .stop))) .stop) .stop) .stop) .stop) .stop)) (.alt 14 (.alt 8 (.alt 10 (.alt 16 (.alt 17 (.alt 18 (.take 19 (.take 20 (.alt 21 .done .stop))) .stop) .stop) .stop) .stop) .stop) .stop)) (.alt 8 (.alt 4 (.alt 10 (.alt 14 (.alt 16 (.alt 17 (.alt 18 (.take 19 (.take 20 (.alt 21 .done .stop))) .stop) .stop) .stop) .stop) (.alt 14 (.alt 10 (.alt 16 (.alt 17 (.alt 18 (.take 19 (.take 20 (.alt 21 .done .stop))) .stop) .stop) .stop) .stop) .stop)) (.alt 10 (.alt 4 (.alt 14 (.alt 16 (.alt 17 (.alt 18 (.take 19 (.take 20 (.alt 21 .done .stop))) .stop) .stop) .stop) .stop) (.alt 14 (.alt 4 (.alt 16 (.alt 17 (.alt 18 (.take 19 (.take 20 (.alt 21 .done .stop))) .stop) .stop) .stop) (.alt 16 (.alt 4 (.alt 17 (.alt 18 (.take 19 (.take 20 (.alt 21 .done .stop))) .stop) .stop) (.alt 17 (.alt 4 (.alt 18 (.take 19 (.take 20 (.alt 21 .done .stop))) .stop) .stop) .stop)) .stop)) .stop)) (.alt 14 (.alt 4 (.alt 10 (.alt 16 (.alt 17 (.alt 18 (.take 19 (.take 20 (.alt 21 .done .stop))) .stop) .stop) .stop) .stop) (.alt 10 (.alt 4 (.alt 16 (.alt 17 (.alt 18 (.take 19 (.take 20 (.alt 21 .done .stop))) .stop) .stop) .stop) (.alt 16 (.alt 4 (.alt 17 (.alt 18 (.take 19 (.take 20 (.alt 21 .done .stop))) .stop) .stop) (.alt 17 (.alt 4 (.alt 18 (.take 19 (.take 20 (.alt 21 .done .stop))) .stop) .stop) .stop)) .stop)) .stop)) .stop))) (.alt 14 (.alt 4 (.alt 8 (.alt 10 (.alt 16 (.alt 17 (.alt 18 (.take 19 (.take 20 (.alt 21 .done .stop))) .stop) .stop) .stop) .stop) .stop) (.alt 8 (.alt 4 (.alt 10 (.alt 16 (.alt 17 (.alt 18 (.take 19 (.take 20 (.alt 21 .done .stop))) .stop) .stop) .stop) .stop) (.alt 10 (.alt 4 (.alt 16 (.alt 17 (.alt 18 (.take 19 (.take 20 (.alt 21 .done .stop))) .stop) .stop) .stop) (.alt 16 (.alt 4 (.alt 17 (.alt 18 (.take 19 (.take 20 (.alt 21 .done .stop))) .stop) .stop) (.alt 17 (.alt 4 (.alt 18 (.take 19 (.take 20 (.alt 21 .done .stop))) .stop) .stop) .stop)) .stop)) .stop)) .stop)) .stop)))))))))))))))
  | 12 => (.take 0 (.take 1 (.take 2 (.take 3 (.take 5 (.take 7 (.take 9 (.take 11 (.alt 4 (.alt 6 (.alt 8 (.alt 10 (.alt 12 (.alt 13 (.alt 14 (.take 15 (.take 16 (.alt 17 .done .stop))) .stop) .stop) .stop) .stop) .stop) .stop) (.alt 6 (.alt 4 (.alt 8 (.alt 10 (.alt 12 (.alt 13 (.alt 14 (.take 15 (.take 16 (.alt 17 .done .stop))) .stop) .stop) .stop) .stop) .stop) (.alt 8 (.alt 4 (.alt 10 (.alt 12 (.alt 13 (.alt 14 (.take 15 (.take 16 (.alt 17 .done .stop))) .stop) .stop) .stop) .stop) (.alt 10 (.alt 4 (.alt 12 (.alt 13 (.alt 14 (.take 15 (.take 16 (.alt 17 .done .stop))) .stop) .stop) .stop) (.alt 12 (.alt 4 (.alt 13 (.alt 14 (.take 15 (.take 16 (.alt 17 .done .stop))) .stop) .stop) (.alt 13 (.alt 4 (.alt 14 (.take 15 (.take 16 (.alt 17 .done .stop))) .stop) .stop) .stop)) .stop)) .stop)) .stop)) .stop))))))))))
  | _ => .stop

def bringC (sc sp to frm : Int) : Option (List Mac) :=
  if to < 16 ∧ frm < 16 then some [movM to frm]
  else if to < 16 then some [loadM to frm]
  else if frm < 16 then some [storeM frm to]
  else if 0 ≤ sc then some [loadM sc frm, storeM sc to]
  else if sp < 0 then none
  else some [storeM 0 (16 + sp + 1), loadM 0 frm, storeM 0 to, loadM 0 (16 + sp + 1)]

def bringR (sc sp : Int) (s : List Mac × Int) (to frm : Int) : List Mac × Int :=
  if s.2 ≠ 0 then s else match bringC sc sp to frm with
    | some c => (s.1 ++ c, 0)
    | none => (s.1, 43)

def layR (n : Nat) (sc sp err : Int) (out : List Mac) : Heap := [.cells [.ref 1 8 0 n, .int .i64 sc, .int .i64 sp, .int .i64 err], .arr 39 elK out]

set_option maxHeartbeats 4000000 in
theorem bring_ct (yl : Nat) (n : Nat) (sc sp err to frm : Int) (out : List Mac) (hn : n = out.length) (hb : n ≤ 100000) (h1 : -1000000 ≤ to ∧ to ≤ 100000) (h2 : -1000000 ≤ frm ∧ frm ≤ 100000) (h3 : sc ≤ 100000) (h4 : sp ≤ 100000) :
    CT Try.prog (Cx.plain yl) (eqk 1) 51 [.ptr 0 0, .int .i64 to, .int .i64 frm] (layR n sc sp err out)
      (fun o H => o = .ret (.tuple []) ∧ H = layR (bringR sc sp (out, err) to frm).1.length sc sp (bringR sc sp (out, err) to frm).2 (bringR sc sp (out, err) to frm).1) := by
  refine CT_of_W (tab := tabM) (D := []) (tr := tr51) Try.func51 (by kernel_rfl) rfl tabM_ok (Cx.plain_ok _ _) (by kernel_rfl) (fun z S R hz hS hR => ?_)
  have hR' : ∀ (s : List Mac × Int), bringR sc sp (out, err) to frm = s → R [] [.cells [.ref 1 8 0 s.1.length, .int .i64 sc, .int .i64 sp, .int .i64 s.2], .arr 39 elK s.1] := fun s hs => by
    subst hs
    exact hR _ _ _ _ (Wk.refl _ _) ⟨rfl, rfl⟩
  have hmv : S .mv 1 [.cells [.ref 1 8 0 n, .int .i64 sc, .int .i64 sp, .int .i64 err], .arr 39 elK out] := by
    rw [hS]; exact fun k _ h => h
  have hbd : ∀ k, k ≤ 10 → z .bd n k := fun k hk => by rw [hz]; show n + k ≤ 1000000; omega
  have hdrw : S .drw [.cells [.ref 1 8 0 n, .int .i64 sc, .int .i64 sp, .int .i64 err], .arr 39 elK out] := by
    rw [hS]; exact ⟨rfl, by kernel_rfl⟩
  have fin : ∀ (c : List Mac) (k : Nat), err = 0 → k = c.length → bringC sc sp to frm = some c → R [] [.cells [.ref 1 8 0 (z .add n k), .int .i64 sc, .int .i64 sp, .int .i64 err], .arr 39 elK (S .app Mac (S .cut Mac out 0 n) c)] := fun c k he hk hc => by
    subst hk
    have := hR' (out ++ c, 0) (by simp [bringR, he, hc])
    subst hz hS he
    show R [] [.cells [.ref 1 8 0 (n + c.length), .int .i64 sc, .int .i64 sp, .int .i64 0], .arr 39 elK ((out.take n).drop 0 ++ c)]
    rw [hn, List.take_length]
    simpa using this
  cbv
  rcases h5 : z .ne err 0 with _ | _
  · have he : err = 0 := by
      subst hz
      have h5' : (err != 0) = false := h5
      simpa using h5'
    cbv
    rcases h6 : z .lt to 16 with _ | _
    · have h6' : ¬ to < 16 := by subst hz; exact of_decide_eq_false h6
      cbv
      rw [h6]
      cbv
      rcases h7 : z .lt frm 16 with _ | _
      · have h7' : ¬ frm < 16 := by subst hz; exact of_decide_eq_false h7
        cbv
        rcases h8 : z .le 0 sc with _ | _
        · have h8' : ¬ 0 ≤ sc := by subst hz; exact of_decide_eq_false h8
          cbv
          rcases h9 : z .lt sp 0 with _ | _
          · have h9' : ¬ sp < 0 := by subst hz; exact of_decide_eq_false h9
            have e9 : z .ar .add .i64 (z .ar .add .i64 16 sp) 1 = 16 + sp + 1 := by
              rw [hz, rz_add (a := 16) (by omega) (by omega), rz_add (by omega) (by omega)]
            have hbr : bringC sc sp to frm = some [storeM 0 (16 + sp + 1), loadM 0 frm, storeM 0 to, loadM 0 (16 + sp + 1)] := by
              simp [bringC, h6', h7', h8', h9']
            cbv
            generalize hq : z .ar .add .i64 (z .ar .add .i64 16 sp) 1 = q at e9
            refine ⟨hdrw, ?_⟩
            repeat' first
              | exact trivial
              | exact hmv
              | exact hbd 1 (by decide)
              | exact hbd 2 (by decide)
              | exact hbd 4 (by decide)
              | (refine fin _ _ he rfl ?_; rw [hbr]; subst_vars; rfl)
              | refine And.intro ?_ ?_
              | (refine use_ct [] hS (Cx.plain_ok _ _) rfl (fun yl => load65_ct yl _ _ (by omega) (by omega)) (may_none []) ?_; rintro o h' ⟨m, hm, rfl, rfl⟩; cbv)
              | (refine use_ct [] hS (Cx.plain_ok _ _) rfl (fun yl => store66_ct yl _ _ (by omega) (by omega)) (may_none []) ?_; rintro o h' ⟨m, hm, rfl, rfl⟩; cbv)
          · have h9' : sp < 0 := by subst hz; exact of_decide_eq_true h9
            have hbr : bringC sc sp to frm = none := by simp [bringC, h6', h7', h8', h9']
            cbv
            rw [hn]
            exact hR' (out, 43) (by simp [bringR, he, hbr])
        · have h8' : 0 ≤ sc := by subst hz; exact of_decide_eq_true h8
          have hbr : bringC sc sp to frm = some [loadM sc frm, storeM sc to] := by simp [bringC, h6', h7', h8']
          cbv
          refine ⟨hdrw, ?_⟩
          repeat' first
            | exact trivial
            | exact hmv
            | exact hbd 1 (by decide)
            | exact hbd 2 (by decide)
            | exact hbd 4 (by decide)
            | (refine fin _ _ he rfl ?_; rw [hbr]; subst_vars; rfl)
            | refine And.intro ?_ ?_
            | (refine use_ct [] hS (Cx.plain_ok _ _) rfl (fun yl => load65_ct yl _ _ (by omega) (by omega)) (may_none []) ?_; rintro o h' ⟨m, hm, rfl, rfl⟩; cbv)
            | (refine use_ct [] hS (Cx.plain_ok _ _) rfl (fun yl => store66_ct yl _ _ (by omega) (by omega)) (may_none []) ?_; rintro o h' ⟨m, hm, rfl, rfl⟩; cbv)
      · have h7' : frm < 16 := by subst hz; exact of_decide_eq_true h7
        have hbr : bringC sc sp to frm = some [storeM frm to] := by simp [bringC, h6', h7']
        cbv
        refine ⟨hdrw, ?_⟩
        repeat' first
          | exact trivial
          | exact hmv
          | exact hbd 1 (by decide)
          | exact hbd 2 (by decide)
          | exact hbd 4 (by decide)
          | (refine fin _ _ he rfl ?_; rw [hbr]; subst_vars; rfl)
          | refine And.intro ?_ ?_
          | (refine use_ct [] hS (Cx.plain_ok _ _) rfl (fun yl => load65_ct yl _ _ (by omega) (by omega)) (may_none []) ?_; rintro o h' ⟨m, hm, rfl, rfl⟩; cbv)
          | (refine use_ct [] hS (Cx.plain_ok _ _) rfl (fun yl => store66_ct yl _ _ (by omega) (by omega)) (may_none []) ?_; rintro o h' ⟨m, hm, rfl, rfl⟩; cbv)
    · have h6' : to < 16 := by subst hz; exact of_decide_eq_true h6
      cbv
      rcases h7 : z .lt frm 16 with _ | _
      · have h7' : ¬ frm < 16 := by subst hz; exact of_decide_eq_false h7
        have hbr : bringC sc sp to frm = some [loadM to frm] := by simp [bringC, h6', h7']
        cbv
        rw [h6]
        cbv
        refine ⟨hdrw, ?_⟩
        repeat' first
          | exact trivial
          | exact hmv
          | exact hbd 1 (by decide)
          | exact hbd 2 (by decide)
          | exact hbd 4 (by decide)
          | (refine fin _ _ he rfl ?_; rw [hbr]; subst_vars; rfl)
          | refine And.intro ?_ ?_
          | (refine use_ct [] hS (Cx.plain_ok _ _) rfl (fun yl => load65_ct yl _ _ (by omega) (by omega)) (may_none []) ?_; rintro o h' ⟨m, hm, rfl, rfl⟩; cbv)
          | (refine use_ct [] hS (Cx.plain_ok _ _) rfl (fun yl => store66_ct yl _ _ (by omega) (by omega)) (may_none []) ?_; rintro o h' ⟨m, hm, rfl, rfl⟩; cbv)
      · have h7' : frm < 16 := by subst hz; exact of_decide_eq_true h7
        have hbr : bringC sc sp to frm = some [movM to frm] := by simp [bringC, h6', h7']
        cbv
        refine ⟨hbd 1 (by decide), hmv, fin _ _ he rfl ?_⟩
        rw [hbr]; rfl
  · have he : err ≠ 0 := by
      subst hz
      have h5' : (err != 0) = true := h5
      simpa using h5'
    cbv
    have := hR' (out, err) (by simp [bringR, he])
    rw [hn]
    exact this
end Go.Ab

/- The reference: round. -/
namespace Go.Ab
open Go.Proofs

def tr55 : Nat → DT
  | 9 => (.take 0 (.take 1 (.take 2 (.take 3 (.take 5 (.take 6 (.take 7 (.take 9 (.take 10 (.take 11 (.take 12 (.alt 4 (.alt 8 (.alt 13 (.alt 14 (.alt 15 (.alt 16 (.take 17 (.take 18 (.alt 19 .done .stop))) .stop) .stop) .stop) .stop) (.alt 13 (.alt 8 (.alt 14 (.alt 15 (.alt 16 (.take 17 (.take 18 (.alt 19 .done .stop))) .stop) .stop) .stop) .stop) .stop)) (.alt 8 (.alt 4 (.alt 13 (.alt 14 (.alt 15 (.alt 16 (.take 17 (.take 18 (.alt 19 .done .stop))) .stop) .stop) .stop) .stop) (.alt 13 (.alt 4 (.alt 14 (.alt 15 (.alt 16 (.take 17 (.take 18 (.alt 19 .done .stop))) .stop) .stop) .stop) (.alt 14 (.alt 4 (.alt 15 (.alt 16 (.take 17 (.take 18 (.alt 19 .done .stop))) .stop) .stop) (.alt 15 (.alt 4 (.alt 16 (.take 17 (.take 18 (.alt 19 .done .stop))) .stop) .stop) .stop)) .stop)) .stop)) (.alt 13 (.alt 4 (.alt 8 (.alt 14 (.alt 15 (.alt 16 (.take 17 (.take 18 (.alt 19 .done .stop))) .stop) .stop) .stop) .stop) (.alt 8 (.alt 4 (.alt 14 (.alt 15 (.alt 16 (.take 17 (.take 18 (.alt 19 .done .stop))) .stop) .stop) .stop) (.alt 14 (.alt 4 (.alt 15 (.alt 16 (.take 17 (.take 18 (.alt 19 .done .stop))) .stop) .stop) (.alt 15 (.alt 4 (.alt 16 (.take 17 (.take 18 (.alt 19 .done .stop))) .stop) .stop) .stop)) .stop)) .stop)) .stop))))))))))))))
  | 19 => (.take 0 (.take 1 (.take 2 (.take 3 (.take 5 (.take 6 (.take 7 (.take 8 (.alt 4 (.alt 9 (.alt 10 .done .stop) .stop) (.alt 9 (.alt 4 (.alt 10 .done .stop) .stop) .stop))))))))))
  | _ => .stop

def pairs (c : List Int) : List (Int × Int) := c.zip c.tail

def regsR (c : List Int) : Bool := c.all fun p => decide (p < 16)

def roundR (sc sp : Int) (s : List Mac × Int) (c : List Int) : List Mac × Int :=
  if regsR c = true ∧ sc < 0 then (s.1 ++ (pairs c).map (fun p => swapM p.1 p.2), s.2)
  else if regsR c = false ∧ sp < 0 then (s.1, 43)
  else
    let at' := if regsR c then sc else 16 + sp
    let s1 := bringR sc sp s at' (c.getD 0 0)
    let s2 := (pairs c).foldl (fun s p => bringR sc sp s p.1 p.2) s1
    bringR sc sp s2 (c.getD (c.length - 1) 0) at'

theorem all_take {α : Type} (f : α → Bool) (l : List α) (d : α) {i : Nat} (h : i < l.length) : (l.take (i + 1)).all f = ((l.take i).all f && f (l.getD i d)) := by
  rw [List.take_add_one, List.all_append, List.getElem?_eq_getElem h, List.getD_eq_getElem?_getD, List.getElem?_eq_getElem h]
  simp

theorem bringC_len {sc sp to frm : Int} {c : List Mac} (h : bringC sc sp to frm = some c) : c.length ≤ 4 := by
  unfold bringC at h
  split at h
  · cases h; simp
  · split at h
    · cases h; simp
    · split at h
      · cases h; simp
      · split at h
        · cases h; simp
        · split at h
          · cases h
          · cases h; simp

theorem bringR_len (sc sp : Int) (s : List Mac × Int) (to frm : Int) : (bringR sc sp s to frm).1.length ≤ s.1.length + 4 := by
  unfold bringR
  split
  · omega
  · split
    · rename_i c hc
      have := bringC_len hc
      simp; omega
    · simp

theorem pairs_len (c : List Int) : (pairs c).length = c.length - 1 := by simp [pairs]

theorem pairs_get (c : List Int) {i : Nat} (h : i + 1 < c.length) : (pairs c).getD i (0, 0) = (c.getD i 0, c.getD (i + 1) 0) := by
  have h1 : i < (pairs c).length := by rw [pairs_len]; omega
  rw [List.getD_eq_getElem?_getD, List.getElem?_eq_getElem h1, List.getD_eq_getElem?_getD, List.getElem?_eq_getElem (by omega), List.getD_eq_getElem?_getD, List.getElem?_eq_getElem h]
  simp [pairs]

theorem may_eqk : ({ n := 2, p := eqk 1 } : Lim).may (pullA [0, 1] (eqk 1)) := fun k hk h => by
  match k, hk with
  | 0, _ => cases h
  | 1, _ => rfl

theorem mem_getD {c : List Int} {i : Nat} (h : i < c.length) : c.getD i 0 ∈ c := by
  rw [List.getD_eq_getElem?_getD, List.getElem?_eq_getElem h]; exact List.getElem_mem h

theorem round_ct (yl : Nat) (fl : Bool) (n : Nat) (sc sp err : Int) (out : List Mac) (c : List Int) (hn : n = out.length) (hb : n ≤ 50000) (hc : 1 ≤ c.length) (hcl : c.length ≤ 1001) (h1 : ∀ p ∈ c, -1000000 ≤ p ∧ p ≤ 100000) (h3 : sc ≤ 100000) (h4 : sp ≤ 50000) :
    CT Try.prog (Cx.plain yl) (eqk 1) 55 [.ptr 0 0, vI fl c] (layR n sc sp err out)
      (fun o H => o = .ret (.tuple []) ∧ H = layR (roundR sc sp (out, err) c).1.length sc sp (roundR sc sp (out, err) c).2 (roundR sc sp (out, err) c).1) := by
  refine CT_of_W (tab := tabM) (D := []) (tr := tr55) Try.func55 (by kernel_rfl) rfl tabM_ok (Cx.plain_ok _ _) (by kernel_rfl) (fun z S R hz hS hR => ?_)
  have hR' : ∀ (s : List Mac × Int), roundR sc sp (out, err) c = s → R [] [.cells [.ref 1 8 0 s.1.length, .int .i64 sc, .int .i64 sp, .int .i64 s.2], .arr 39 elK s.1] := fun s hs => by
    subst hs
    exact hR _ _ _ _ (Wk.refl _ _) ⟨rfl, rfl⟩
  have e0 : S .at_ Int 0 c (z .nat 0) = c.getD 0 0 := by rw [hS, hz]; rfl
  cbv
  refine tri_loop hS (Cx.plain_ok _ _) (Nat.le_refl _) (fun m env H => ∃ (i : Nat) (b : Bool), i ≤ c.length ∧ m = c.length - i ∧ b = (c.take i).all (fun p => decide (p < 16)) ∧
      env = mkE 109 [(0, .ptr 0 0), (1, vI fl c), (4, .bool b), (5, .int .i64 i)] ∧ H = [.cells [.ref 1 8 0 n, .int .i64 sc, .int .i64 sp, .int .i64 err], .arr 39 elK out]) c.length
    (.keep [0, 1, 4, 5]) (Nat.le_refl _) ⟨0, true, Nat.zero_le _, rfl, rfl, rfl, rfl⟩ ?_
  rintro m env H ⟨i, b, hi, rfl, hbb, rfl, rfl⟩ hh
  refine T_of_W (tab := tabM) (D := []) (tr := tr55) tabM_ok (Cx.plain_ok _ _) (by kernel_rfl) hh (fun z' S' Q' hz' hS' hQ => ?_)
  cbv
  rcases h5 : z' .lt (Int.ofNat i) (S' .len Int c) with _ | _
  · cbv
    apply hQ
    have e : c.take i = c := by
      rw [hz', hS'] at h5
      simp [realz, reals] at h5
      exact List.take_of_length_le h5
    rw [e] at hbb
    have hreg : regsR c = b := hbb.symm
    clear hQ
    cases b with
    | true =>
      cbv
      rcases h6 : z .lt sc 0 with _ | _
      · have h6' : ¬ sc < 0 := by subst hz; exact of_decide_eq_false h6
        have hround : roundR sc sp (out, err) c = bringR sc sp ((pairs c).foldl (fun s p => bringR sc sp s p.1 p.2) (bringR sc sp (out, err) sc (c.getD 0 0))) (c.getD (c.length - 1) 0) sc := by
          simp [roundR, hreg, h6']
        cbv
        refine ⟨by rw [hS]; simp [reals]; omega, ?_⟩
        rw [e0]
        refine use_ct [0, 1] hS (Cx.plain_ok _ _) rfl (fun yl => bring_ct yl n sc sp err sc (c.getD 0 0) out hn (by omega) (by omega) (h1 _ (mem_getD (by omega))) (by omega) (by omega)) may_eqk ?_
        rintro o h' ⟨rfl, rfl⟩
        have hlen1 := bringR_len sc sp (out, err) sc (c.getD 0 0)
        generalize hs1 : bringR sc sp (out, err) sc (c.getD 0 0) = s1 at hlen1
        obtain ⟨o1, e1⟩ := s1
        have hlen1' : o1.length ≤ n + 4 := by rw [hn]; exact hlen1
        generalize hn1 : o1.length = n1 at hlen1'
        cbv
        refine tri_loop hS (Cx.plain_ok _ _) (Nat.le_refl _) (fun m env H => ∃ (i n2 : Nat) (o2 : List Mac) (e2 : Int), i ≤ c.length - 1 ∧ m = c.length - 1 - i ∧ o2.length = n2 ∧ n2 ≤ n + 4 + 4 * i ∧
            ((pairs c).take i).foldl (fun s p => bringR sc sp s p.1 p.2) (o1, e1) = (o2, e2) ∧
            env = mkE 109 [(0, .ptr 0 0), (1, vI fl c), (7, .int .i64 sc), (8, .int .i64 i)] ∧ H = [.cells [.ref 1 8 0 n2, .int .i64 sc, .int .i64 sp, .int .i64 e2], .arr 39 elK o2]) (c.length - 1)
          (.keep [0, 1, 7, 8]) (Nat.le_refl _) ⟨0, n1, o1, e1, Nat.zero_le _, rfl, hn1, by omega, rfl, rfl, rfl⟩ ?_
        rintro m env H ⟨i2, n2, o2, e2, hi2, rfl, ho2, hle2, hf2, rfl, rfl⟩ hh2
        refine T_of_W (tab := tabM) (D := []) (tr := tr55) tabM_ok (Cx.plain_ok _ _) (by kernel_rfl) hh2 (fun z2 S2 Q2 hz2 hS2 hQ2 => ?_)
        have einc : z2 .ar .add .i64 (Int.ofNat i2) 1 = Int.ofNat (i2 + 1) := by rw [hz2]; exact rz_inc i2 (by omega)
        cbv
        rw [einc]
        rcases h8 : z2 .lt (Int.ofNat (i2 + 1)) (S2 .len Int c) with _ | _
        · cbv
          apply hQ2
          have hfin : i2 = c.length - 1 := by
            rw [hz2, hS2] at h8
            have h8' : ¬ ((i2 + 1 : Nat) : Int) < (c.length : Int) := of_decide_eq_false h8
            omega
          have el : z .ar .sub .i64 (S .len Int c) 1 = Int.ofNat (c.length - 1) := by
            rw [hz, hS]
            show realz .ar .sub .i64 ((c.length : Nat) : Int) 1 = _
            rw [rz_sub (by omega) (by omega)]
            simp only [Int.ofNat_eq_natCast]; omega
          have e3 : S .at_ Int 0 c (z .nat (Int.ofNat (c.length - 1))) = c.getD (c.length - 1) 0 := by rw [hS, hz]; rfl
          have hfull : (pairs c).take i2 = pairs c := List.take_of_length_le (by rw [pairs_len]; omega)
          rw [hfull] at hf2
          generalize hk : c.length - 1 = k at el e3
          cbv
          rw [el]
          refine ⟨by rw [hS]; simp [reals]; omega, ?_⟩
          rw [e3]
          refine use_ct [0, 1] hS (Cx.plain_ok _ _) rfl (fun yl => bring_ct yl n2 sc sp e2 (c.getD k 0) sc o2 ho2.symm (by omega) (h1 _ (mem_getD (by omega))) (by omega) (by omega) (by omega)) may_eqk ?_
          rintro o h' ⟨rfl, rfl⟩
          have hfinal := hR' (bringR sc sp (o2, e2) (c.getD k 0) sc) (by rw [hround]; simp only [hs1, hf2, hk])
          generalize bringR sc sp (o2, e2) (c.getD k 0) sc = s3 at hfinal
          obtain ⟨o3, e3'⟩ := s3
          generalize hn3 : o3.length = n3
          cbv
          rw [← hn3]
          exact hfinal
        · have hlt2 : i2 + 1 < c.length := by
            rw [hz2, hS2] at h8
            have h8' : ((i2 + 1 : Nat) : Int) < (c.length : Int) := of_decide_eq_true h8
            omega
          have ei : S2 .at_ Int 0 c (z2 .nat (Int.ofNat i2)) = c.getD i2 0 := by rw [hS2, hz2]; rfl
          have ej : S2 .at_ Int 0 c (z2 .nat (Int.ofNat (i2 + 1))) = c.getD (i2 + 1) 0 := by rw [hS2, hz2]; rfl
          have hlen3 := bringR_len sc sp (o2, e2) (c.getD i2 0) (c.getD (i2 + 1) 0)
          have hstep : ((pairs c).take (i2 + 1)).foldl (fun s p => bringR sc sp s p.1 p.2) (o1, e1) = bringR sc sp (o2, e2) (c.getD i2 0) (c.getD (i2 + 1) 0) := by
            rw [fold_take (fun (s : List Mac × Int) (p : Int × Int) => bringR sc sp s p.1 p.2) (o1, e1) (pairs c) (0, 0) (by rw [pairs_len]; omega), hf2, pairs_get c hlt2]
          have one : ∀ K, (∀ o3 e3 n3, o3.length = n3 → n3 ≤ n + 4 + 4 * (i2 + 1) → ((pairs c).take (i2 + 1)).foldl (fun s p => bringR sc sp s p.1 p.2) (o1, e1) = (o3, e3) →
              K (.ret (.tuple [])) (pullA [0, 1] (eqk 1)) (merge [0, 1] (pullA [0, 1] (eqk 1)) [.cells [.ref 1 8 0 n2, .int .i64 sc, .int .i64 sp, .int .i64 e2], .arr 39 elK o2] (layR n3 sc sp e3 o3))) →
              S2 .call 51 [.ptr 0 0, .int .i64 (S2 .at_ Int 0 c (z2 .nat (Int.ofNat i2))), .int .i64 (S2 .at_ Int 0 c (z2 .nat (Int.ofNat (i2 + 1))))] [.cells [.ref 1 8 0 n2, .int .i64 sc, .int .i64 sp, .int .i64 e2], .arr 39 elK o2] K := fun K hK => by
            rw [ei, ej]
            refine use_ct [0, 1] hS2 (Cx.plain_ok _ _) rfl (fun yl => bring_ct yl n2 sc sp e2 (c.getD i2 0) (c.getD (i2 + 1) 0) o2 ho2.symm (by omega) (h1 _ (mem_getD (by omega))) (h1 _ (mem_getD hlt2)) (by omega) (by omega)) may_eqk ?_
            rintro o h' ⟨rfl, rfl⟩
            exact hK _ _ _ rfl (by simp only at hlen3; omega) hstep
          cbv
          rw [einc]
          refine ⟨by rw [hS2]; exact ⟨rfl, by kernel_rfl⟩, by rw [hS2]; simp [reals]; omega, by rw [hS2]; simp [reals]; omega, ?_⟩
          repeat' first
            | exact trivial
            | refine And.intro ?_ ?_
            | (refine one _ ?_; intro o3 e3 n3 h31 h32 h33; cbv; apply hQ2; rw [einc]; exact ⟨_, _, _, by omega, .keep [0, 1, 7, 8], i2 + 1, n3, o3, e3, by omega, rfl, h31, h32, h33, rfl, rfl⟩)
      · have h6' : sc < 0 := by subst hz; exact of_decide_eq_true h6
        have hround : roundR sc sp (out, err) c = (out ++ (pairs c).map (fun p => swapM p.1 p.2), err) := by
          simp [roundR, hreg, h6']
        cbv
        refine tri_loop hS (Cx.plain_ok _ _) (Nat.le_refl _) (fun m env H => ∃ (i n2 : Nat) (ys : List Mac), i ≤ c.length - 1 ∧ m = c.length - 1 - i ∧ ys.length = n2 ∧ n2 = n + i ∧ ys = out ++ ((pairs c).take i).map (fun p => swapM p.1 p.2) ∧
            env = mkE 109 [(0, .ptr 0 0), (1, vI fl c), (6, .int .i64 i)] ∧ H = [.cells [.ref 1 8 0 n2, .int .i64 sc, .int .i64 sp, .int .i64 err], .arr 39 elK ys]) (c.length - 1)
          (.keep [0, 1, 6]) (Nat.le_refl _) ⟨0, n, out, Nat.zero_le _, rfl, hn.symm, rfl, by simp, rfl, rfl⟩ ?_
        rintro m env H ⟨i2, n2, ys, hi2, rfl, hy2, hn2, hys, rfl, rfl⟩ hh2
        refine T_of_W (tab := tabM) (D := []) (tr := tr55) tabM_ok (Cx.plain_ok _ _) (by kernel_rfl) hh2 (fun z2 S2 Q2 hz2 hS2 hQ2 => ?_)
        have einc : z2 .ar .add .i64 (Int.ofNat i2) 1 = Int.ofNat (i2 + 1) := by rw [hz2]; exact rz_inc i2 (by omega)
        cbv
        rw [einc]
        rcases h8 : z2 .lt (Int.ofNat (i2 + 1)) (S2 .len Int c) with _ | _
        · cbv
          apply hQ2
          have hfin : i2 = c.length - 1 := by
            rw [hz2, hS2] at h8
            have h8' : ¬ ((i2 + 1 : Nat) : Int) < (c.length : Int) := of_decide_eq_false h8
            omega
          have hfull : (pairs c).take i2 = pairs c := List.take_of_length_le (by rw [pairs_len]; omega)
          rw [hfull] at hys
          have hfinal := hR' (ys, err) (by rw [hround, hys])
          cbv
          rw [← hy2]
          exact hfinal
        · have hlt2 : i2 + 1 < c.length := by
            rw [hz2, hS2] at h8
            have h8' : ((i2 + 1 : Nat) : Int) < (c.length : Int) := of_decide_eq_true h8
            omega
          have hstep : ((pairs c).take (i2 + 1)).map (fun p => swapM p.1 p.2) = ((pairs c).take i2).map (fun p => swapM p.1 p.2) ++ [swapM (c.getD i2 0) (c.getD (i2 + 1) 0)] := by
            have hlt3 : i2 < (pairs c).length := by rw [pairs_len]; omega
            have hg := pairs_get c hlt2
            rw [List.getD_eq_getElem?_getD, List.getElem?_eq_getElem hlt3, Option.getD_some] at hg
            rw [List.take_add_one, List.map_append, List.getElem?_eq_getElem hlt3, Option.toList_some, List.map_cons, List.map_nil, hg]
          have hmv : S2 .mv 1 [.cells [.ref 1 8 0 n2, .int .i64 sc, .int .i64 sp, .int .i64 err], .arr 39 elK ys] := by
            rw [hS2]; exact fun k _ h => h
          have hbd : z2 .bd n2 1 := by rw [hz2]; show n2 + 1 ≤ 1000000; omega
          have fin : ∀ env' (m : Mac), m = swapM (c.getD i2 0) (c.getD (i2 + 1) 0) → keepE [0, 1, 6] env' = mkE 109 [(0, .ptr 0 0), (1, vI fl c), (6, .int .i64 (Int.ofNat (i2 + 1)))] → Q2 .norm env' [.cells [.ref 1 8 0 (z2 .add n2 1), .int .i64 sc, .int .i64 sp, .int .i64 err], .arr 39 elK (S2 .app Mac (S2 .cut Mac ys 0 n2) [m])] := fun env' m hm he => by
            apply hQ2
            subst hz2 hS2 hm
            refine ⟨_, _, _, by omega, .keep [0, 1, 6], i2 + 1, n2 + 1, ys ++ [swapM (c.getD i2 0) (c.getD (i2 + 1) 0)], by omega, rfl, by simp [hy2], by omega, by rw [hstep, hys, List.append_assoc], he, ?_⟩
            show [Blk.cells [.ref 1 8 0 (n2 + 1), .int .i64 sc, .int .i64 sp, .int .i64 err], .arr 39 elK ((ys.take n2).drop 0 ++ [swapM (c.getD i2 0) (c.getD (i2 + 1) 0)])] = [Blk.cells [.ref 1 8 0 (n2 + 1), .int .i64 sc, .int .i64 sp, .int .i64 err], .arr 39 elK (ys ++ [swapM (c.getD i2 0) (c.getD (i2 + 1) 0)])]
            rw [← hy2, List.take_length]; rfl
          have ei : S2 .at_ Int 0 c (z2 .nat (Int.ofNat i2)) = c.getD i2 0 := by rw [hS2, hz2]; rfl
          have ej : S2 .at_ Int 0 c (z2 .nat (Int.ofNat (i2 + 1))) = c.getD (i2 + 1) 0 := by rw [hS2, hz2]; rfl
          cbv
          rw [einc]
          refine ⟨by rw [hS2]; exact ⟨rfl, by kernel_rfl⟩, by rw [hS2]; simp [reals]; omega, by rw [hS2]; simp [reals]; omega, ?_⟩
          rw [ei, ej]
          repeat' first
            | exact trivial
            | exact hmv
            | exact hbd
            | refine And.intro ?_ ?_
            | exact fin _ _ rfl rfl
    | false =>
      cbv
      rcases h6 : z .lt sp 0 with _ | _
      · have h6' : ¬ sp < 0 := by subst hz; exact of_decide_eq_false h6
        have hround : roundR sc sp (out, err) c = bringR sc sp ((pairs c).foldl (fun s p => bringR sc sp s p.1 p.2) (bringR sc sp (out, err) (16 + sp) (c.getD 0 0))) (c.getD (c.length - 1) 0) (16 + sp) := by
          simp [roundR, hreg, h6']
        have eat : z .ar .add .i64 16 sp = 16 + sp := by rw [hz]; exact rz_add (by omega) (by omega)
        generalize hat : 16 + sp = at' at eat hround
        cbv
        rw [eat]
        refine ⟨by rw [hS]; simp [reals]; omega, ?_⟩
        rw [e0]
        refine use_ct [0, 1] hS (Cx.plain_ok _ _) rfl (fun yl => bring_ct yl n sc sp err at' (c.getD 0 0) out hn (by omega) (by omega) (h1 _ (mem_getD (by omega))) (by omega) (by omega)) may_eqk ?_
        rintro o h' ⟨rfl, rfl⟩
        have hlen1 := bringR_len sc sp (out, err) at' (c.getD 0 0)
        generalize hs1 : bringR sc sp (out, err) at' (c.getD 0 0) = s1 at hlen1
        obtain ⟨o1, e1⟩ := s1
        have hlen1' : o1.length ≤ n + 4 := by rw [hn]; exact hlen1
        generalize hn1 : o1.length = n1 at hlen1'
        cbv
        refine tri_loop hS (Cx.plain_ok _ _) (Nat.le_refl _) (fun m env H => ∃ (i n2 : Nat) (o2 : List Mac) (e2 : Int), i ≤ c.length - 1 ∧ m = c.length - 1 - i ∧ o2.length = n2 ∧ n2 ≤ n + 4 + 4 * i ∧
            ((pairs c).take i).foldl (fun s p => bringR sc sp s p.1 p.2) (o1, e1) = (o2, e2) ∧
            env = mkE 109 [(0, .ptr 0 0), (1, vI fl c), (7, .int .i64 at'), (8, .int .i64 i)] ∧ H = [.cells [.ref 1 8 0 n2, .int .i64 sc, .int .i64 sp, .int .i64 e2], .arr 39 elK o2]) (c.length - 1)
          (.keep [0, 1, 7, 8]) (Nat.le_refl _) ⟨0, n1, o1, e1, Nat.zero_le _, rfl, hn1, by omega, rfl, rfl, rfl⟩ ?_
        rintro m env H ⟨i2, n2, o2, e2, hi2, rfl, ho2, hle2, hf2, rfl, rfl⟩ hh2
        refine T_of_W (tab := tabM) (D := []) (tr := tr55) tabM_ok (Cx.plain_ok _ _) (by kernel_rfl) hh2 (fun z2 S2 Q2 hz2 hS2 hQ2 => ?_)
        have einc : z2 .ar .add .i64 (Int.ofNat i2) 1 = Int.ofNat (i2 + 1) := by rw [hz2]; exact rz_inc i2 (by omega)
        cbv
        rw [einc]
        rcases h8 : z2 .lt (Int.ofNat (i2 + 1)) (S2 .len Int c) with _ | _
        · cbv
          apply hQ2
          have hfin : i2 = c.length - 1 := by
            rw [hz2, hS2] at h8
            have h8' : ¬ ((i2 + 1 : Nat) : Int) < (c.length : Int) := of_decide_eq_false h8
            omega
          have el : z .ar .sub .i64 (S .len Int c) 1 = Int.ofNat (c.length - 1) := by
            rw [hz, hS]
            show realz .ar .sub .i64 ((c.length : Nat) : Int) 1 = _
            rw [rz_sub (by omega) (by omega)]
            simp only [Int.ofNat_eq_natCast]; omega
          have e3 : S .at_ Int 0 c (z .nat (Int.ofNat (c.length - 1))) = c.getD (c.length - 1) 0 := by rw [hS, hz]; rfl
          have hfull : (pairs c).take i2 = pairs c := List.take_of_length_le (by rw [pairs_len]; omega)
          rw [hfull] at hf2
          generalize hk : c.length - 1 = k at el e3
          cbv
          rw [el]
          refine ⟨by rw [hS]; simp [reals]; omega, ?_⟩
          rw [e3]
          refine use_ct [0, 1] hS (Cx.plain_ok _ _) rfl (fun yl => bring_ct yl n2 sc sp e2 (c.getD k 0) at' o2 ho2.symm (by omega) (h1 _ (mem_getD (by omega))) (by omega) (by omega) (by omega)) may_eqk ?_
          rintro o h' ⟨rfl, rfl⟩
          have hfinal := hR' (bringR sc sp (o2, e2) (c.getD k 0) at') (by rw [hround]; simp only [hs1, hf2, hk])
          generalize bringR sc sp (o2, e2) (c.getD k 0) at' = s3 at hfinal
          obtain ⟨o3, e3'⟩ := s3
          generalize hn3 : o3.length = n3
          cbv
          rw [← hn3]
          exact hfinal
        · have hlt2 : i2 + 1 < c.length := by
            rw [hz2, hS2] at h8
            have h8' : ((i2 + 1 : Nat) : Int) < (c.length : Int) := of_decide_eq_true h8
            omega
          have ei : S2 .at_ Int 0 c (z2 .nat (Int.ofNat i2)) = c.getD i2 0 := by rw [hS2, hz2]; rfl
          have ej : S2 .at_ Int 0 c (z2 .nat (Int.ofNat (i2 + 1))) = c.getD (i2 + 1) 0 := by rw [hS2, hz2]; rfl
          have hlen3 := bringR_len sc sp (o2, e2) (c.getD i2 0) (c.getD (i2 + 1) 0)
          have hstep : ((pairs c).take (i2 + 1)).foldl (fun s p => bringR sc sp s p.1 p.2) (o1, e1) = bringR sc sp (o2, e2) (c.getD i2 0) (c.getD (i2 + 1) 0) := by
            rw [fold_take (fun (s : List Mac × Int) (p : Int × Int) => bringR sc sp s p.1 p.2) (o1, e1) (pairs c) (0, 0) (by rw [pairs_len]; omega), hf2, pairs_get c hlt2]
          have one : ∀ K, (∀ o3 e3 n3, o3.length = n3 → n3 ≤ n + 4 + 4 * (i2 + 1) → ((pairs c).take (i2 + 1)).foldl (fun s p => bringR sc sp s p.1 p.2) (o1, e1) = (o3, e3) →
              K (.ret (.tuple [])) (pullA [0, 1] (eqk 1)) (merge [0, 1] (pullA [0, 1] (eqk 1)) [.cells [.ref 1 8 0 n2, .int .i64 sc, .int .i64 sp, .int .i64 e2], .arr 39 elK o2] (layR n3 sc sp e3 o3))) →
              S2 .call 51 [.ptr 0 0, .int .i64 (S2 .at_ Int 0 c (z2 .nat (Int.ofNat i2))), .int .i64 (S2 .at_ Int 0 c (z2 .nat (Int.ofNat (i2 + 1))))] [.cells [.ref 1 8 0 n2, .int .i64 sc, .int .i64 sp, .int .i64 e2], .arr 39 elK o2] K := fun K hK => by
            rw [ei, ej]
            refine use_ct [0, 1] hS2 (Cx.plain_ok _ _) rfl (fun yl => bring_ct yl n2 sc sp e2 (c.getD i2 0) (c.getD (i2 + 1) 0) o2 ho2.symm (by omega) (h1 _ (mem_getD (by omega))) (h1 _ (mem_getD hlt2)) (by omega) (by omega)) may_eqk ?_
            rintro o h' ⟨rfl, rfl⟩
            exact hK _ _ _ rfl (by simp only at hlen3; omega) hstep
          cbv
          rw [einc]
          refine ⟨by rw [hS2]; exact ⟨rfl, by kernel_rfl⟩, by rw [hS2]; simp [reals]; omega, by rw [hS2]; simp [reals]; omega, ?_⟩
          repeat' first
            | exact trivial
            | refine And.intro ?_ ?_
            | (refine one _ ?_; intro o3 e3 n3 h31 h32 h33; cbv; apply hQ2; rw [einc]; exact ⟨_, _, _, by omega, .keep [0, 1, 7, 8], i2 + 1, n3, o3, e3, by omega, rfl, h31, h32, h33, rfl, rfl⟩)
      · have h6' : sp < 0 := by subst hz; exact of_decide_eq_true h6
        have hround : roundR sc sp (out, err) c = (out, 43) := by
          simp [roundR, hreg, h6']
        cbv
        rw [hn]
        exact hR' (out, 43) hround
  · have hlt : i < c.length := by
      rw [hz', hS'] at h5
      simp [realz, reals] at h5
      omega
    have hst := all_take (fun p : Int => decide (p < 16)) c 0 hlt
    cases b with
    | true =>
      cbv
      refine ⟨by rw [hS']; simp [reals]; omega, ?_⟩
      apply hQ
      subst hz' hS'
      refine ⟨_, _, _, ?_, .keep [0, 1, 4, 5], i + 1, decide (c.getD i 0 < 16), hlt, rfl, ?_, ?_, rfl⟩
      · omega
      · rw [hst, ← hbb]; rfl
      · rw [rz_inc i (by omega)]; rfl
    | false =>
      cbv
      apply hQ
      subst hz' hS'
      refine ⟨_, _, _, ?_, .keep [0, 1, 4, 5], i + 1, false, hlt, rfl, ?_, ?_, rfl⟩
      · omega
      · rw [hst, ← hbb]; rfl
      · rw [rz_inc i (by omega)]; rfl
end Go.Ab
