/- Contracts of the program's functions over an abstract state, and what they rest on: part AbH. No condition. -/
import Derived.Test.YtdpmlgfkdgabkaaAbF
import Derived.Test.YtdpmlgfkdgabkaaAbC
set_option linter.unusedVariables false
set_option linter.unusedSimpArgs false

/- The program: small functions. -/
namespace Go.Ab
open Go.Proofs

theorem load61_ct (yl : Nat) (reg place : Int) (h0 : -1000000 ≤ place) (h1 : place ≤ 1000000) : CT Try.prog (Cx.plain yl) noAr 61 [.int .i64 reg, .int .i64 place] [] (fun o H => ∃ m, m = loadM reg place ∧ o = .ret (.agg (encK m)) ∧ H = []) := by
  refine CT_of_W (tab := tabM) (D := []) (tr := noTr) Try.func61 (by kernel_rfl) rfl tabM_ok (Cx.plain_ok _ _) (by kernel_rfl) (fun z S R hz hS hR => ?_)
  cbv
  refine hR _ _ _ _ (.drop 0 rfl (Nat.zero_le _)) ⟨_, rfl, ?_, rfl⟩
  subst hz
  rw [rz_sub (by omega) (by omega), rz_wr (by omega) (by omega)]
  rfl

theorem store62_ct (yl : Nat) (reg place : Int) (h0 : -1000000 ≤ place) (h1 : place ≤ 1000000) : CT Try.prog (Cx.plain yl) noAr 62 [.int .i64 reg, .int .i64 place] [] (fun o H => ∃ m, m = storeM reg place ∧ o = .ret (.agg (encK m)) ∧ H = []) := by
  refine CT_of_W (tab := tabM) (D := []) (tr := noTr) Try.func62 (by kernel_rfl) rfl tabM_ok (Cx.plain_ok _ _) (by kernel_rfl) (fun z S R hz hS hR => ?_)
  cbv
  refine hR _ _ _ _ (.drop 0 rfl (Nat.zero_le _)) ⟨_, rfl, ?_, rfl⟩
  subst hz
  rw [rz_sub (by omega) (by omega), rz_wr (by omega) (by omega)]
  rfl

def layI (n : Nat) (sc sp : Int) (lk : Bool) (out : List Mac) : Heap := [.cells [.ref 1 8 0 n, .int .i64 sc, .int .i64 sp, .bool lk], .arr 39 elK out]

theorem lay_ct (yl : Nat) (n : Nat) (sc sp : Int) (lk : Bool) (out : List Mac) (ms : List Mac) (ess : List (List V)) (he : ess = ms.map encK) (hn : n = out.length) (hb : n + ms.length ≤ 1000000) :
    CT Try.prog (Cx.plain yl) (eqk 1) 60 [.ptr 0 0, .lit 8 ess true] (layI n sc sp lk out) (fun o H => ∃ n' out', n' = out'.length ∧ out' = out ++ ms ∧ o = .ret (.tuple []) ∧ H = layI n' sc sp lk out') := by
  refine CT_of_W (tab := tabM) (D := []) (tr := noTr) Try.func60 (by kernel_rfl) rfl tabM_ok (Cx.plain_ok _ _) (by kernel_rfl) (fun z S R hz hS hR => ?_)
  have hdec : ess.map decK = ms := by
    subst he
    simp [Function.comp_def, encK, decK]
  have hR' : R [] [.cells [.ref 1 8 0 (z .add n ess.length), .int .i64 sc, .int .i64 sp, .bool lk], .arr 39 elK (S .app Mac (S .cut Mac out 0 n) (ess.map decK))] := by
    refine hR _ _ _ _ (Wk.refl _ _) ⟨_, _, rfl, rfl, rfl, ?_⟩
    rw [hdec]
    subst hz hS
    show [Blk.cells [.ref 1 8 0 (n + ess.length), .int .i64 sc, .int .i64 sp, .bool lk], .arr 39 elK ((out.take n).drop 0 ++ ms)] = _
    rw [hn, List.take_length, he]
    simp [layI]
  have h1 : ess.map (fun c => elK.enc (elK.dec c)) = ess := by
    subst he
    simp [Function.comp_def, elK, encK, decK]
  have h2 : z .bd n ess.length := by rw [hz, he]; simpa [realz] using hb
  have h3 : ∀ H, S .mv 1 H := fun H => by rw [hS]; exact fun k _ h => h
  cbv
  cases ess with
  | nil => exact ⟨h1, h2, h3 _, hR'⟩
  | cons a r => exact ⟨h1, h2, h3 _, hR'⟩

def bringI (sc sp : Int) (s : List Mac × Bool) (to frm : Int) : List Mac × Bool := match bringC sc sp to frm with
  | some c => (s.1 ++ c, s.2)
  | none => (s.1, true)

/-! ### Closures of Order -/
def getI (m : List (Int × Int)) (k : Int) : Int := mget mII m k
/-- Is a place used no more? -/
theorem unused_ct (yl : Nat) (u : List (Int × Int)) (p : Int) : CT Try.prog (Cx.plain yl) noAr 36 [.int .i64 p, .ptr 0 0] [.cells [.mp 1], .map mII u]
    (fun o H => o = .ret (.bool (getI u p == 0)) ∧ H = [.cells [.mp 1], .map mII u]) := by
  refine CT_of_W (tab := tabM) (D := []) (tr := noTr) Try.func36 (by kernel_rfl) rfl tabM_ok (Cx.plain_ok _ _) (by kernel_rfl) (fun z S R hz hS hR => ?_)
  cbv
  refine hR _ _ _ _ (Wk.refl _ _) ⟨?_, rfl⟩
  subst hz hS
  rfl

theorem equal_ct (yl : Nat) (p q : Int) : CT Try.prog (Cx.plain yl) noAr 34 [.int .i64 q, .ptr 0 0] [.cells [.int .i64 p]]
    (fun o H => o = .ret (.bool (q == p)) ∧ H = [.cells [.int .i64 p]]) := by
  refine CT_of_W (tab := tabM) (D := []) (tr := noTr) Try.func34 (by kernel_rfl) rfl tabM_ok (Cx.plain_ok _ _) (by kernel_rfl) (fun z S R hz hS hR => ?_)
  cbv
  refine hR _ _ _ _ (Wk.refl _ _) ⟨?_, rfl⟩
  subst hz hS
  rfl

theorem ring_ct (yl : Nat) (m : List (Int × Int)) (x : Int) : CT Try.prog (Cx.plain yl) noAr 39 [.mp 0, .int .i64 x] [.map mII m]
    (fun o H => o = .ret (.fn 63 [] [.ptr 2 0, .ptr 1 0]) ∧ H = [.map mII m, .cells [.mp 0], .cells [.int .i64 x]]) := by
  refine CT_of_W (tab := tabM) (D := []) (tr := noTr) Try.func39 (by kernel_rfl) rfl tabM_ok (Cx.plain_ok _ _) (by kernel_rfl) (fun z S R hz hS hR => ?_)
  cbv
  exact hR _ _ _ _ (Wk.refl _ _) ⟨rfl, rfl⟩
end Go.Ab

/- The program: bring. -/
namespace Go.Ab
open Go.Proofs

def tr37 : Nat → DT := fun _ => (.take 0 (.take 1 (.take 2 (.take 3 (.take 5 (.take 7 (.take 8 (.take 9 (.take 11 (.alt 4 (.alt 6 (.alt 10 (.alt 12 (.alt 13 (.alt 14 .done .stop) .stop) .stop) .stop) (.alt 10 (.alt 6 (.alt 12 (.alt 13 (.alt 14 .done .stop) .stop) .stop) .stop) .stop)) (.alt 10 (.alt 4 (.alt 6 (.alt 12 (.alt 13 (.alt 14 .done .stop) .stop) .stop) .stop) .stop) .stop)))))))))))

theorem bringI_ct (yl : Nat) (n : Nat) (sc sp to frm : Int) (lk : Bool) (out : List Mac) (hn : n = out.length) (hb : n ≤ 100000) (h1 : -1000000 ≤ to ∧ to ≤ 100000) (h2 : -1000000 ≤ frm ∧ frm ≤ 100000) (h3 : sc ≤ 100000) (h4 : sp ≤ 100000) :
    CT Try.prog (Cx.plain yl) (eqk 1) 37 [.ptr 0 0, .int .i64 to, .int .i64 frm] (layI n sc sp lk out)
      (fun o H => ∃ n' lk' out', n' = out'.length ∧ (out', lk') = bringI sc sp (out, lk) to frm ∧ o = .ret (.tuple []) ∧ H = layI n' sc sp lk' out') := by
  refine CT_of_W (tab := tabM) (D := []) (tr := tr37) Try.func37 (by kernel_rfl) rfl tabM_ok (Cx.plain_ok _ _) (by kernel_rfl) (fun z S R hz hS hR => ?_)
  have hR' : ∀ (n' : Nat) (lk' : Bool) (out' : List Mac), n' = out'.length → (out', lk') = bringI sc sp (out, lk) to frm → R [] [.cells [.ref 1 8 0 n', .int .i64 sc, .int .i64 sp, .bool lk'], .arr 39 elK out'] := fun n' lk' out' a b =>
    hR _ _ _ _ (Wk.refl _ _) ⟨n', lk', out', a, b, rfl, rfl⟩
  have hmay : ({ n := 2, p := eqk 1 } : Lim).may (pullA [0, 1] (eqk 1)) := may_eqk
  have fin : ∀ (c : List Mac) (n' : Nat) (out' : List Mac), bringC sc sp to frm = some c → n' = out'.length → out' = out ++ c → R [] [.cells [.ref 1 8 0 n', .int .i64 sc, .int .i64 sp, .bool lk], .arr 39 elK out'] := fun c n' out' hc a b =>
    hR' n' lk out' a (by rw [bringI, hc, b])
  cbv
  rcases h6 : z .lt to 16 with _ | _
  · have h6' : ¬ to < 16 := by subst hz; exact of_decide_eq_false h6
    cbv
    rw [h6]
    cbv
    rcases h7 : z .lt frm 16 with _ | _
    · have h7' : ¬ frm < 16 := by subst hz; exact of_decide_eq_false h7
      cbv
      rcases h8 : z .le 0 sc with _ | _
      · have h8' : ¬ 0 ≤ sc := by subst hz; exact of_decide_eq_false h8
        cbv
        rcases h9 : z .lt sp 0 with _ | _
        · have h9' : ¬ sp < 0 := by subst hz; exact of_decide_eq_false h9
          have e9 : z .ar .add .i64 (z .ar .add .i64 16 sp) 1 = 16 + sp + 1 := by
            rw [hz, rz_add (a := 16) (by omega) (by omega), rz_add (by omega) (by omega)]
          have hbr : bringC sc sp to frm = some [storeM 0 (16 + sp + 1), loadM 0 frm, storeM 0 to, loadM 0 (16 + sp + 1)] := by
            simp [bringC, h6', h7', h8', h9']
          cbv
          generalize hq : z .ar .add .i64 (z .ar .add .i64 16 sp) 1 = q at e9
          refine use_ct [] hS (Cx.plain_ok _ _) rfl (fun yl => store62_ct yl _ _ (by omega) (by omega)) (may_none []) ?_; rintro o h' ⟨m1, hm1, rfl, rfl⟩; cbv
          refine use_ct [] hS (Cx.plain_ok _ _) rfl (fun yl => load61_ct yl _ _ (by omega) (by omega)) (may_none []) ?_; rintro o h' ⟨m2, hm2, rfl, rfl⟩; cbv
          refine use_ct [] hS (Cx.plain_ok _ _) rfl (fun yl => store62_ct yl _ _ (by omega) (by omega)) (may_none []) ?_; rintro o h' ⟨m3, hm3, rfl, rfl⟩; cbv
          refine use_ct [] hS (Cx.plain_ok _ _) rfl (fun yl => load61_ct yl _ _ (by omega) (by omega)) (may_none []) ?_; rintro o h' ⟨m4, hm4, rfl, rfl⟩; cbv
          refine use_ct [0, 1] hS (Cx.plain_ok _ _) rfl (fun yl => lay_ct yl n sc sp lk out [m1, m2, m3, m4] _ rfl hn (by simp; omega)) hmay ?_
          rintro o h' ⟨n', out', hn', ho', rfl, rfl⟩
          cbv
          exact fin _ _ _ hbr hn' (by rw [ho', hm1, hm2, hm3, hm4, e9])
        · have h9' : sp < 0 := by subst hz; exact of_decide_eq_true h9
          have hbr : bringC sc sp to frm = none := by simp [bringC, h6', h7', h8', h9']
          cbv
          exact hR' n true out hn (by rw [bringI, hbr])
      · have h8' : 0 ≤ sc := by subst hz; exact of_decide_eq_true h8
        have hbr : bringC sc sp to frm = some [loadM sc frm, storeM sc to] := by simp [bringC, h6', h7', h8']
        cbv
        refine ⟨by rw [hS]; exact ⟨rfl, by kernel_rfl⟩, ?_⟩
        repeat' first
          | exact trivial
          | (refine fin _ _ _ hbr ‹_› ?_; subst_vars; rfl)
          | refine And.intro ?_ ?_
          | (refine use_ct [] hS (Cx.plain_ok _ _) rfl (fun yl => load61_ct yl _ _ (by omega) (by omega)) (may_none []) ?_; rintro o h' ⟨m1, hm1, rfl, rfl⟩; cbv)
          | (refine use_ct [] hS (Cx.plain_ok _ _) rfl (fun yl => store62_ct yl _ _ (by omega) (by omega)) (may_none []) ?_; rintro o h' ⟨m2, hm2, rfl, rfl⟩; cbv)
          | (refine use_ct [0, 1] hS (Cx.plain_ok _ _) rfl (fun yl => lay_ct yl n sc sp lk out [_, _] _ rfl hn (by simp; omega)) hmay ?_; rintro o h' ⟨n', out', hn', ho', rfl, rfl⟩; cbv)
    · have h7' : frm < 16 := by subst hz; exact of_decide_eq_true h7
      have hbr : bringC sc sp to frm = some [storeM frm to] := by simp [bringC, h6', h7']
      cbv
      refine use_ct [] hS (Cx.plain_ok _ _) rfl (fun yl => store62_ct yl _ _ (by omega) (by omega)) (may_none []) ?_; rintro o h' ⟨m1, hm1, rfl, rfl⟩; cbv
      refine use_ct [0, 1] hS (Cx.plain_ok _ _) rfl (fun yl => lay_ct yl n sc sp lk out [m1] _ rfl hn (by simp; omega)) hmay ?_
      rintro o h' ⟨n', out', hn', ho', rfl, rfl⟩
      cbv
      exact fin _ _ _ hbr hn' (by rw [ho', hm1])
  · have h6' : to < 16 := by subst hz; exact of_decide_eq_true h6
    cbv
    rcases h7 : z .lt frm 16 with _ | _
    · have h7' : ¬ frm < 16 := by subst hz; exact of_decide_eq_false h7
      have hbr : bringC sc sp to frm = some [loadM to frm] := by simp [bringC, h6', h7']
      cbv
      rw [h6]
      cbv
      refine use_ct [] hS (Cx.plain_ok _ _) rfl (fun yl => load61_ct yl _ _ (by omega) (by omega)) (may_none []) ?_; rintro o h' ⟨m1, hm1, rfl, rfl⟩; cbv
      refine use_ct [0, 1] hS (Cx.plain_ok _ _) rfl (fun yl => lay_ct yl n sc sp lk out [m1] _ rfl hn (by simp; omega)) hmay ?_
      rintro o h' ⟨n', out', hn', ho', rfl, rfl⟩
      cbv
      exact fin _ _ _ hbr hn' (by rw [ho', hm1])
    · have h7' : frm < 16 := by subst hz; exact of_decide_eq_true h7
      have hbr : bringC sc sp to frm = some [movM to frm] := by simp [bringC, h6', h7']
      cbv
      refine use_ct [0, 1] hS (Cx.plain_ok _ _) rfl (fun yl => lay_ct yl n sc sp lk out [movM to frm] _ rfl hn (by simp; omega)) hmay ?_
      rintro o h' ⟨n', out', hn', ho', rfl, rfl⟩
      cbv
      exact fin _ _ _ hbr hn' ho'
end Go.Ab

/- The program: maps; what is wrong first. -/
namespace Go.Ab
open Go.Proofs

def aget {β : Type} (d : β) : List (Int × β) → Int → β
  | [], _ => d
  | p :: m, k => if p.1 = k then p.2 else aget d m k
def aput {β : Type} : List (Int × β) → Int → β → List (Int × β)
  | [], k, v => [(k, v)]
  | p :: m, k, v => if p.1 = k then (k, v) :: m else p :: aput m k v

theorem aget_aput {β : Type} (d : β) (k k' : Int) (v : β) : ∀ m : List (Int × β), aget d (aput m k v) k' = if k' = k then v else aget d m k'
  | [] => by
    simp only [aput, aget]
    by_cases h : k = k'
    · rw [if_pos h, if_pos h.symm]
    · rw [if_neg h, if_neg (fun e => h e.symm)]
  | p :: m => by
    have ih := aget_aput d k k' v m
    simp only [aput]
    by_cases h : p.1 = k
    · rw [if_pos h]
      simp only [aget]
      by_cases h' : k = k'
      · rw [if_pos h', if_pos h'.symm]
      · rw [if_neg h', if_neg (fun e => h' e.symm), if_neg (fun e => h' (h.symm.trans e))]
    · rw [if_neg h]
      simp only [aget]
      by_cases h' : p.1 = k'
      · rw [if_pos h', if_pos h', if_neg (fun e => h (h'.trans e))]
      · rw [if_neg h', if_neg h', ih]

theorem mget_cons_t (m : Mp) {p : m.κ × m.β} {es : List (m.κ × m.β)} {k : m.κ} (h : p.1 = k) : mget m (p :: es) k = p.2 := by
  unfold mget
  rw [List.find?_cons, @decide_eq_true _ (m.eq _ _) h]

theorem mget_cons_f (m : Mp) {p : m.κ × m.β} {es : List (m.κ × m.β)} {k : m.κ} (h : p.1 ≠ k) : mget m (p :: es) k = mget m es k := by
  unfold mget
  rw [List.find?_cons, @decide_eq_false _ (m.eq _ _) h]

theorem mhas_iff (m : Mp) (es : List (m.κ × m.β)) (k : m.κ) : mhas m es k = true ↔ ∃ p ∈ es, p.1 = k := by
  unfold mhas
  rw [List.any_eq_true]
  exact ⟨fun ⟨p, h1, h2⟩ => ⟨p, h1, @of_decide_eq_true _ (m.eq _ _) h2⟩, fun ⟨p, h1, h2⟩ => ⟨p, h1, @decide_eq_true _ (m.eq _ _) h2⟩⟩

theorem mput_map (m : Mp) (es : List (m.κ × m.β)) (k : m.κ) (v : m.β) (h : ∃ p ∈ es, p.1 = k) : mput m es k v = es.map fun p => if @decide (p.1 = k) (m.eq _ _) = true then (p.1, v) else p := by
  rw [mput, if_pos ((mhas_iff m es k).2 h)]

theorem mput_add (m : Mp) (es : List (m.κ × m.β)) (k : m.κ) (v : m.β) (h : ¬ ∃ p ∈ es, p.1 = k) : mput m es k v = es ++ [(k, v)] := by
  rw [mput, if_neg (fun h' => h ((mhas_iff m es k).1 h'))]

def getT (m : List (Int × Bool)) (k : Int) : Bool := mget mIB m k
def putT (m : List (Int × Bool)) (k : Int) (v : Bool) : List (Int × Bool) := mput mIB m k v
def putI (m : List (Int × Int)) (k v : Int) : List (Int × Int) := mput mII m k v

theorem getT_eq (k : Int) : ∀ (m : List (Int × Bool)), getT m k = aget false m k
  | [] => rfl
  | p :: m => by
    simp only [aget]
    by_cases h : p.1 = k
    · rw [if_pos h]; exact mget_cons_t mIB h
    · rw [if_neg h, ← getT_eq k m]; exact mget_cons_f mIB h
theorem getI_eq (k : Int) : ∀ (m : List (Int × Int)), getI m k = aget 0 m k
  | [] => rfl
  | p :: m => by
    simp only [aget]
    by_cases h : p.1 = k
    · rw [if_pos h]; exact mget_cons_t mII h
    · rw [if_neg h, ← getI_eq k m]; exact mget_cons_f mII h

theorem aget_app {β : Type} (d : β) (k k' : Int) (v : β) : ∀ m : List (Int × β), (∀ p ∈ m, p.1 ≠ k) → aget d (m ++ [(k, v)]) k' = if k' = k then v else aget d m k'
  | [], _ => aget_aput d k k' v []
  | p :: m, h => by
    have ih := aget_app d k k' v m (fun q hq => h q (by simp [hq]))
    simp only [List.cons_append, aget]
    by_cases h' : p.1 = k'
    · rw [if_pos h', if_pos h', if_neg (fun e => h p (by simp) (h'.trans e))]
    · rw [if_neg h', if_neg h', ih]

theorem aget_map {β : Type} (d : β) (k k' : Int) (v : β) : ∀ m : List (Int × β), (∃ p ∈ m, p.1 = k) → aget d (m.map fun p => if decide (p.1 = k) = true then (p.1, v) else p) k' = if k' = k then v else aget d m k'
  | [], h => by obtain ⟨p, hp, _⟩ := h; cases hp
  | p :: m, h => by
    have rest : (¬ ∃ q ∈ m, q.1 = k) → (m.map fun p => if decide (p.1 = k) = true then (p.1, v) else p) = m := fun hno => by
      conv => rhs; rw [← List.map_id m]
      refine List.map_congr_left (fun q hq => ?_)
      rw [decide_eq_false (fun e => hno ⟨q, hq, e⟩)]; rfl
    simp only [List.map_cons]
    by_cases e : p.1 = k
    · rw [decide_eq_true e, if_pos rfl]
      simp only [aget]
      by_cases h' : p.1 = k'
      · rw [if_pos h', if_pos (h'.symm.trans e)]
      · rw [if_neg h', if_neg h', if_neg (fun e2 => h' (e.trans e2.symm))]
        by_cases hm : ∃ q ∈ m, q.1 = k
        · rw [aget_map d k k' v m hm, if_neg (fun e2 => h' (e.trans e2.symm))]
        · rw [rest hm]
    · have hm : ∃ q ∈ m, q.1 = k := by
        obtain ⟨q, hq, e2⟩ := h
        rcases List.mem_cons.1 hq with rfl | hq
        · exact (e e2).elim
        · exact ⟨q, hq, e2⟩
      rw [decide_eq_false e, if_neg (by simp)]
      simp only [aget]
      rw [aget_map d k k' v m hm]
      by_cases h' : p.1 = k'
      · rw [if_pos h', if_pos h', if_neg (fun e2 => e (h'.trans e2))]
      · rw [if_neg h', if_neg h']

theorem ite_dec (k : Int) {β : Type} (v : β) (i : DecidableEq Int) : (fun p : Int × β => if @decide (p.1 = k) (i _ _) = true then (p.1, v) else p) = fun p => if decide (p.1 = k) = true then (p.1, v) else p := by
  funext p
  by_cases h : p.1 = k
  · rw [@decide_eq_true _ (i _ _) h]
  · rw [@decide_eq_false _ (i _ _) h]

theorem putT_cases (m : List (Int × Bool)) (k : Int) (v : Bool) : (∃ p ∈ m, p.1 = k) ∧ putT m k v = (m.map fun p => if decide (p.1 = k) = true then (p.1, v) else p) ∨ (¬ ∃ p ∈ m, p.1 = k) ∧ putT m k v = m ++ [(k, v)] := by
  by_cases h : ∃ p ∈ m, p.1 = k
  · exact .inl ⟨h, (mput_map mIB m k v h).trans (congrArg (fun f => List.map f m) (ite_dec k v mIB.eq))⟩
  · exact .inr ⟨h, mput_add mIB m k v h⟩

theorem putI_cases (m : List (Int × Int)) (k : Int) (v : Int) : (∃ p ∈ m, p.1 = k) ∧ putI m k v = (m.map fun p => if decide (p.1 = k) = true then (p.1, v) else p) ∨ (¬ ∃ p ∈ m, p.1 = k) ∧ putI m k v = m ++ [(k, v)] := by
  by_cases h : ∃ p ∈ m, p.1 = k
  · exact .inl ⟨h, (mput_map mII m k v h).trans (congrArg (fun f => List.map f m) (ite_dec k v mII.eq))⟩
  · exact .inr ⟨h, mput_add mII m k v h⟩

theorem getT_put (m : List (Int × Bool)) (k k' : Int) (v : Bool) : getT (putT m k v) k' = if k' = k then v else getT m k' := by
  rw [getT_eq, getT_eq]
  rcases putT_cases m k v with ⟨h, e⟩ | ⟨h, e⟩
  · rw [e]; exact aget_map false k k' v m h
  · rw [e]; exact aget_app false k k' v m (fun p hp e => h ⟨p, hp, e⟩)

theorem getI_put (m : List (Int × Int)) (k k' : Int) (v : Int) : getI (putI m k v) k' = if k' = k then v else getI m k' := by
  rw [getI_eq, getI_eq]
  rcases putI_cases m k v with ⟨h, e⟩ | ⟨h, e⟩
  · rw [e]; exact aget_map 0 k k' v m h
  · rw [e]; exact aget_app 0 k k' v m (fun p hp e => h ⟨p, hp, e⟩)

theorem putI_keys (m : List (Int × Int)) (k v : Int) : (putI m k v).map (·.1) = if k ∈ m.map (·.1) then m.map (·.1) else m.map (·.1) ++ [k] := by
  rcases putI_cases m k v with ⟨h, e⟩ | ⟨h, e⟩
  · have h' : k ∈ m.map (·.1) := by
      obtain ⟨p, hp, e⟩ := h
      exact List.mem_map.2 ⟨p, hp, e⟩
    rw [if_pos h', e, List.map_map]
    refine List.map_congr_left (fun p _ => ?_)
    simp only [Function.comp]
    split <;> rfl
  · have h' : ¬ k ∈ m.map (·.1) := fun h2 => by
      obtain ⟨p, hp, e⟩ := List.mem_map.1 h2
      exact h ⟨p, hp, e⟩
    rw [if_neg h', e, List.map_append]; rfl

theorem place_ct (yl : Nat) (n : Int) : CT Try.prog (Cx.plain yl) noAr 57 [.int .i64 n] [] (fun o H => ∃ b, b = placeR n ∧ o = .ret (.bool b) ∧ H = []) := by
  refine CT_of_W (tab := tabM) (D := []) (tr := noTr) Try.func57 (by kernel_rfl) rfl tabM_ok (Cx.plain_ok _ _) (by kernel_rfl) (fun z S R hz hS hR => ?_)
  cbv
  rcases h1 : z .le 0 n with _ | _ <;> cbv <;> refine hR _ _ _ _ (Wk.refl _ _) ⟨_, rfl, ?_, rfl⟩ <;> subst hz
  · have h : decide (0 ≤ n) = false := h1
    rw [placeR, h]; rfl
  · have h : decide (0 ≤ n) = true := h1
    rw [placeR, h]; rfl
end Go.Ab

/- The program: wrong. -/
namespace Go.Ab
open Go.Proofs

def tr30 : Nat → DT := fun _ => (.take 0 (.take 1 (.take 3 (.take 4 (.take 6 (.take 7 (.alt 2 (.alt 5 (.alt 8 (.alt 9 (.alt 10 (.alt 11 .done .stop) .stop) .stop) (.alt 9 (.alt 8 (.alt 10 (.alt 11 .done .stop) .stop) (.alt 10 (.alt 8 (.alt 11 .done .stop) .stop) .stop)) .stop)) (.alt 8 (.alt 5 (.alt 9 (.alt 10 (.alt 11 .done .stop) .stop) .stop) (.alt 9 (.alt 5 (.alt 10 (.alt 11 .done .stop) .stop) .stop) .stop)) (.alt 9 (.alt 5 (.alt 8 (.alt 10 (.alt 11 .done .stop) .stop) (.alt 10 (.alt 8 (.alt 11 .done .stop) .stop) .stop)) (.alt 8 (.alt 5 (.alt 10 (.alt 11 .done .stop) .stop) .stop) .stop)) .stop))) (.alt 5 (.alt 2 (.alt 8 (.alt 9 (.alt 10 (.alt 11 .done .stop) .stop) .stop) (.alt 9 (.alt 8 (.alt 10 (.alt 11 .done .stop) .stop) (.alt 10 (.alt 8 (.alt 11 .done .stop) .stop) .stop)) .stop)) (.alt 8 (.alt 2 (.alt 9 (.alt 10 (.alt 11 .done .stop) .stop) .stop) .stop) .stop)) (.alt 8 (.alt 2 (.alt 5 (.alt 9 (.alt 10 (.alt 11 .done .stop) .stop) .stop) (.alt 9 (.alt 5 (.alt 10 (.alt 11 .done .stop) .stop) .stop) .stop)) (.alt 5 (.alt 2 (.alt 9 (.alt 10 (.alt 11 .done .stop) .stop) .stop) .stop) .stop)) .stop)))))))))

theorem beq_swap (a b : Int) : (a == b) = (b == a) := by
  by_cases h : a = b
  · subst h; rfl
  · rw [beq_eq_false_iff_ne.2 h, beq_eq_false_iff_ne.2 (fun e => h e.symm)]

theorem any_or {α : Type} (f g : α → Bool) : ∀ l : List α, l.any (fun m => f m || g m) = (l.any f || l.any g)
  | [] => rfl
  | x :: l => by
    simp only [List.any_cons, any_or f g l]
    cases f x <;> cases g x <;> simp

theorem wrongI_ct (yl : Nat) (fl : Bool) (l : List Move) (sc sp : Int) (hl : l.length ≤ 1000) (h4 : -9223372036854775808 ≤ sp) :
    CT Try.prog (Cx.plain yl) noAr 30 [vM fl l, .int .i64 sc, .int .i64 sp] [] (fun o H => ∃ e, e = wrongR l sc sp ∧ o = .ret (.int .i64 e) ∧ H = []) := by
  refine CT_of_W (tab := tabM) (D := []) (tr := tr30) Try.func30 (by kernel_rfl) rfl tabM_ok (Cx.plain_ok _ _) (by kernel_rfl) (fun z S R hz hS hR => ?_)
  have hR' : ∀ (e : Int) (H : Heap), wrongR l sc sp = e → R [.int .i64 e] H := fun e H he =>
    hR _ _ _ _ (.drop 0 rfl (Nat.zero_le _)) ⟨e, he.symm, rfl, by cases H <;> rfl⟩
  cbv
  refine tri_loop hS (Cx.plain_ok _ _) (Nat.zero_le _) (fun m env H => ∃ (i n : Nat) (tw : Bool) (en et : List (Int × Bool)), n = l.length ∧ i ≤ l.length ∧ m = l.length - i ∧ (l.take i).any badR = false ∧ tw = dupTo l i ∧
      (∀ k, getT et k = (l.take i).any (fun m => m.1 == k)) ∧ (∀ k, getT en k = (l.take i).any (hitR k)) ∧
      env = mkE 81 [(0, vM fl l), (1, .int .i64 sc), (2, .int .i64 sp), (7, .mp 0), (8, .mp 1), (9, .bool tw), (14, vM fl l), (15, .int .i64 n), (16, .int .i64 i)] ∧ H = [.map mIB en, .map mIB et]) l.length
    (.keep [0, 1, 2, 7, 8, 9, 14, 15, 16]) (Nat.zero_le _) ⟨0, l.length, false, [], [], rfl, Nat.zero_le _, rfl, rfl, rfl, fun _ => rfl, fun _ => rfl, by subst hS; rfl, rfl⟩ ?_
  rintro m env H ⟨i, n, tw, en, et, hn, hi, rfl, hbad, htw, het, hen, rfl, rfl⟩ hh
  refine T_of_W (tab := tabM) (D := []) (tr := tr30) tabM_ok (Cx.plain_ok _ _) (by kernel_rfl) hh (fun z' S' Q' hz' hS' hQ => ?_)
  cbv
  rcases h5 : z' .lt (Int.ofNat i) (Int.ofNat n) with _ | _
  · have e : i = l.length := by
      rw [hz'] at h5
      have h5' : ¬ (i : Int) < (n : Int) := of_decide_eq_false h5
      omega
    rw [e, List.take_length] at hbad het hen
    rw [e] at htw
    cbv
    apply hQ
    clear hQ
    cbv
    cases tw with
    | true =>
      cbv
      exact hR' 12 _ (by rw [wrongR, hbad, ← htw]; rfl)
    | false =>
      cbv
      rcases h6 : z .le 16 sc with _ | _
      · have h6' : ¬ 15 < sc := by
          rw [hz] at h6
          have : ¬ (16 : Int) ≤ sc := of_decide_eq_false h6
          omega
        have eg : S .mget mIB en (mIB.kdec (.int .i64 sc)) = l.any (hitR sc) := by rw [hS]; exact hen sc
        have more : ¬ (0 ≤ sc ∧ l.any (hitR sc) = true) → wrongR l sc sp = if 16382 < sp then 43 else if 0 ≤ sp ∧ l.any (fun m => hitR (16 + sp) m || hitR (17 + sp) m) = true then 43 else 0 := fun h => by
          rw [wrongR, hbad, ← htw, if_neg (by simp), if_neg (by simp), if_neg h6', if_neg h]
        cbv
        rcases h7 : z .le 0 sc with _ | _
        · have h7' : ¬ 0 ≤ sc := by rw [hz] at h7; exact of_decide_eq_false h7
          have hm := more (fun ⟨a, _⟩ => h7' a)
          cbv
          rcases h8 : z .le 16383 sp with _ | _
          · have h8' : ¬ 16382 < sp := by
              rw [hz] at h8
              have : ¬ (16383 : Int) ≤ sp := of_decide_eq_false h8
              omega
            cbv
            rcases h9 : z .le 0 sp with _ | _
            · have h9' : ¬ 0 ≤ sp := by rw [hz] at h9; exact of_decide_eq_false h9
              cbv
              exact hR' 0 _ (by rw [hm, if_neg h8', if_neg (fun ⟨a, _⟩ => h9' a)])
            · have h9' : 0 ≤ sp := by rw [hz] at h9; exact of_decide_eq_true h9
              have e16 : z .ar .add .i64 16 sp = 16 + sp := by rw [hz]; exact rz_add (by omega) (by omega)
              have e17 : z .ar .add .i64 (16 + sp) 1 = 17 + sp := by rw [hz, rz_add (by omega) (by omega)]; omega
              have eg1 : S .mget mIB en (mIB.kdec (.int .i64 (16 + sp))) = l.any (hitR (16 + sp)) := by rw [hS]; exact hen _
              have eg2 : S .mget mIB en (mIB.kdec (.int .i64 (17 + sp))) = l.any (hitR (17 + sp)) := by rw [hS]; exact hen _
              have hor : l.any (fun m => hitR (16 + sp) m || hitR (17 + sp) m) = (l.any (hitR (16 + sp)) || l.any (hitR (17 + sp))) := any_or _ _ l
              cbv
              rw [e16]
              rcases h10 : S .mget mIB en (mIB.kdec (.int .i64 (16 + sp))) with _ | _
              · cbv
                rw [e16, e17]
                rcases h11 : S .mget mIB en (mIB.kdec (.int .i64 (17 + sp))) with _ | _
                · cbv
                  exact hR' 0 _ (by rw [hm, if_neg h8', if_neg]; rw [hor, ← eg1, ← eg2, h10, h11]; simp)
                · cbv
                  exact hR' 43 _ (by rw [hm, if_neg h8', if_pos]; rw [hor, ← eg1, ← eg2, h10, h11]; exact ⟨h9', rfl⟩)
              · cbv
                exact hR' 43 _ (by rw [hm, if_neg h8', if_pos]; rw [hor, ← eg1, h10]; exact ⟨h9', rfl⟩)
          · have h8' : 16382 < sp := by
              rw [hz] at h8
              have : (16383 : Int) ≤ sp := of_decide_eq_true h8
              omega
            cbv
            exact hR' 43 _ (by rw [hm, if_pos h8'])
        · have h7' : 0 ≤ sc := by rw [hz] at h7; exact of_decide_eq_true h7
          cbv
          rcases h12 : S .mget mIB en (mIB.kdec (.int .i64 sc)) with _ | _
          · have hm := more (fun ⟨_, b⟩ => by rw [← eg, h12] at b; cases b)
            cbv
            rcases h8 : z .le 16383 sp with _ | _
            · have h8' : ¬ 16382 < sp := by
                rw [hz] at h8
                have : ¬ (16383 : Int) ≤ sp := of_decide_eq_false h8
                omega
              cbv
              rcases h9 : z .le 0 sp with _ | _
              · have h9' : ¬ 0 ≤ sp := by rw [hz] at h9; exact of_decide_eq_false h9
                cbv
                exact hR' 0 _ (by rw [hm, if_neg h8', if_neg (fun ⟨a, _⟩ => h9' a)])
              · have h9' : 0 ≤ sp := by rw [hz] at h9; exact of_decide_eq_true h9
                have e16 : z .ar .add .i64 16 sp = 16 + sp := by rw [hz]; exact rz_add (by omega) (by omega)
                have e17 : z .ar .add .i64 (16 + sp) 1 = 17 + sp := by rw [hz, rz_add (by omega) (by omega)]; omega
                have eg1 : S .mget mIB en (mIB.kdec (.int .i64 (16 + sp))) = l.any (hitR (16 + sp)) := by rw [hS]; exact hen _
                have eg2 : S .mget mIB en (mIB.kdec (.int .i64 (17 + sp))) = l.any (hitR (17 + sp)) := by rw [hS]; exact hen _
                have hor : l.any (fun m => hitR (16 + sp) m || hitR (17 + sp) m) = (l.any (hitR (16 + sp)) || l.any (hitR (17 + sp))) := any_or _ _ l
                cbv
                rw [e16]
                rcases h10 : S .mget mIB en (mIB.kdec (.int .i64 (16 + sp))) with _ | _
                · cbv
                  rw [e16, e17]
                  rcases h11 : S .mget mIB en (mIB.kdec (.int .i64 (17 + sp))) with _ | _
                  · cbv
                    exact hR' 0 _ (by rw [hm, if_neg h8', if_neg]; rw [hor, ← eg1, ← eg2, h10, h11]; simp)
                  · cbv
                    exact hR' 43 _ (by rw [hm, if_neg h8', if_pos]; rw [hor, ← eg1, ← eg2, h10, h11]; exact ⟨h9', rfl⟩)
                · cbv
                  exact hR' 43 _ (by rw [hm, if_neg h8', if_pos]; rw [hor, ← eg1, h10]; exact ⟨h9', rfl⟩)
            · have h8' : 16382 < sp := by
                rw [hz] at h8
                have : (16383 : Int) ≤ sp := of_decide_eq_true h8
                omega
              cbv
              exact hR' 43 _ (by rw [hm, if_pos h8'])
          · cbv
            exact hR' 31 _ (by rw [wrongR, hbad, ← htw, if_neg (by simp), if_neg (by simp), if_neg h6', if_pos ⟨h7', by rw [← eg, h12]⟩])
      · have h6' : 15 < sc := by
          rw [hz] at h6
          have : (16 : Int) ≤ sc := of_decide_eq_true h6
          omega
        cbv
        exact hR' 31 _ (by rw [wrongR, hbad, ← htw, if_neg (by simp), if_neg (by simp), if_pos h6'])
  · have hlt : i < l.length := by
      rw [hz'] at h5
      have h5' : (i : Int) < (n : Int) := of_decide_eq_true h5
      omega
    have hany := any_take badR l (0, 0) hlt
    have eat : S' .at_ (Int × Int) (0, 0) l (z' .nat (Int.ofNat i)) = l.getD i (0, 0) := by rw [hS', hz']; rfl
    have einc : z' .ar .add .i64 (Int.ofNat i) 1 = Int.ofNat (i + 1) := by rw [hz']; exact rz_inc i (by omega)
    cbv
    have hidx : S' .idx (Int × Int) l (Int.ofNat i) := by rw [hS']; simp [reals]; omega
    refine ⟨hidx, ?_⟩
    rw [eat]
    generalize hmi : l.getD i (0, 0) = mi at hany
    obtain ⟨to, frm⟩ := mi
    cbv
    refine use_ct [] hS' (Cx.plain_ok _ _) rfl (fun yl => place_ct yl _) (may_none []) ?_
    rintro o h' ⟨b1, hb1, rfl, rfl⟩
    have leaf : badR (to, frm) = true → ∀ H, R [.int .i64 41] H := fun h H => hR' 41 H (by
      have : l.any badR = true := by
        rw [List.any_eq_true]
        exact ⟨l.getD i (0, 0), by rw [List.getD_eq_getElem?_getD, List.getElem?_eq_getElem hlt]; exact List.getElem_mem hlt, by rw [hmi, h]⟩
      simp [wrongR, this])
    cases b1 with
    | false =>
      cbv
      apply hQ
      cbv
      exact leaf (by rw [badR, ← hb1]; rfl) _
    | true =>
      cbv
      refine use_ct [] hS' (Cx.plain_ok _ _) rfl (fun yl => place_ct yl _) (may_none []) ?_
      rintro o h' ⟨b2, hb2, rfl, rfl⟩
      have hdup : dupTo l (i + 1) = (dupTo l i || dupAt l i) := by simp [dupTo, List.range_succ, List.any_append]
      have hat : dupAt l i = getT et to := by
        rw [het, dupAt, hmi]
        congr 1
        funext m
        exact beq_swap _ _
      have het' : ∀ k, getT (putT et to true) k = (l.take (i + 1)).any (fun m => m.1 == k) := fun k => by
        rw [getT_put, any_take (fun m : Move => m.1 == k) l (0, 0) hlt, ← het k, hmi]
        by_cases h : k = to
        · rw [if_pos h, h]; simp
        · rw [if_neg h]
          have : (to == k) = false := beq_eq_false_iff_ne.2 (fun e => h e.symm)
          simp [this]
      have hen' : ∀ k, getT (putT (putT en to true) frm true) k = (l.take (i + 1)).any (hitR k) := fun k => by
        rw [getT_put, getT_put, any_take (hitR k) l (0, 0) hlt, ← hen k, hmi]
        by_cases h : k = frm
        · rw [if_pos h, h]; simp [hitR]
        · rw [if_neg h]
          by_cases h2 : k = to
          · rw [if_pos h2, h2]; simp [hitR]
          · rw [if_neg h2]
            have e1 : (to == k) = false := beq_eq_false_iff_ne.2 (fun e => h2 e.symm)
            have e2 : (frm == k) = false := beq_eq_false_iff_ne.2 (fun e => h e.symm)
            simp [hitR, e1, e2]
      cases b2 with
      | false =>
        cbv
        apply hQ
        cbv
        exact leaf (by rw [badR, ← hb1, ← hb2]; rfl) _
      | true =>
        have hbad' : (l.take (i + 1)).any badR = false := by rw [hany, hbad, badR, ← hb1, ← hb2]; rfl
        have fin : ∀ env' tw', tw' = dupTo l (i + 1) → keepE [0, 1, 2, 7, 8, 9, 14, 15, 16] env' = mkE 81 [(0, vM fl l), (1, .int .i64 sc), (2, .int .i64 sp), (7, .mp 0), (8, .mp 1), (9, .bool tw'), (14, vM fl l), (15, .int .i64 n), (16, .int .i64 (Int.ofNat (i + 1)))] →
            Q' .norm env' [.map mIB (putT (putT en to true) frm true), .map mIB (putT et to true), .cells [.int .i64 to, .int .i64 frm]] := fun env' tw' h1 h2 => by
          apply hQ
          exact ⟨_, _, _, by omega, .trans (.keep [0, 1, 2, 7, 8, 9, 14, 15, 16]) (.drop 2 (by rw [h2]; rfl) (Nat.zero_le _)), i + 1, n, tw', _, _, hn, hlt, rfl, hbad', h1, het', hen', h2, rfl⟩
        have hdrw : ∀ H, S' .drw H := fun H => by rw [hS']; exact ⟨rfl, by kernel_rfl⟩
        cases tw with
        | true =>
          cbv
          rw [einc]
          refine ⟨hdrw _, ?_⟩
          subst hz' hS'
          repeat' first
            | exact trivial
            | exact fin _ true (by rw [hdup, ← htw]; rfl) rfl
            | refine And.intro ?_ ?_
        | false =>
          cbv
          rw [einc]
          refine ⟨hdrw _, ?_⟩
          subst hz' hS'
          repeat' first
            | exact trivial
            | exact fin _ (getT et to) (by rw [hdup, ← htw, hat]; rfl) rfl
            | refine And.intro ?_ ?_
end Go.Ab

/- The program: the places of a circle, one by one (printed by wip/tools/genring.py 8,2 11,2 12,1). -/
namespace Go.Ab
open Go.Proofs

theorem YT.mono {P : Program} {cx : Cx} {p : Ar} {args : List V} {H : Heap} {K K' : Out → Heap → Prop} (h : YT P cx p args H K) (hk : ∀ o H', K o H' → K' o H') : YT P cx p args H K' := fun G w vs hc s r => by
  obtain ⟨f, tmps, assign, body, h1, h2⟩ := h G w vs hc s r
  refine ⟨f, tmps, assign, body, h1, RoundIn.mono h2 (fun e w' he => ?_)⟩
  obtain ⟨G', x, H', a, b, d, e⟩ := he
  exact ⟨G', x, H', a, b, d, hk _ _ e⟩


theorem ring1_ct_8_2 (cx : Cx) (p : Ar) (H0 : Heap) (x : Int) (m : List (Int × Int)) (c : Nat → Int) (n : Nat) (I : Nat → Heap → Prop) (hcx : cx.Ok ⟨8, p⟩)
    (hc0 : c 0 = x) (hcs : ∀ i, i ≤ n → c (i + 1) = getI m (c i)) (hne : ∀ i, i < n → c (i + 1) ≠ x) (hend : c (n + 1) = x) (h0 : I 0 H0)
    (hI : ∀ i H, I i H → ∃ b0 b1 b3 b4 b5 : Blk, H = [b0, b1, .map mII m, b3, b4, b5, .cells [.mp 2], .cells [.int .i64 x]])
    (hy : ∀ i H, i ≤ n → I i H → YT Try.prog cx p [.int .i64 (c i), .int .i64 (c (i + 1))] H (fun o H' => o = .ret (.bool true) ∧ I (i + 1) H')) :
    CT Try.prog cx p 63 [.yld, .ptr 7 0, .ptr 6 0] H0 (fun o H' => (∃ v, o = .ret v) ∧ I (n + 1) H') := by
  obtain ⟨b0, b1, b3, b4, b5, rfl⟩ := hI 0 H0 h0
  refine CT_of_W (tab := tabM) (D := []) (tr := noTr) Try.func63 (by kernel_rfl) rfl tabM_ok hcx (by kernel_rfl) (fun z S R hz hS hR => ?_)
  have hR' : ∀ H', I (n + 1) H' → R [] H' := fun H' h => hR _ _ _ _ (Wk.refl _ _) ⟨⟨_, rfl⟩, h⟩
  cbv
  refine tri_loop hS hcx (Nat.le_refl _) (fun m' env H => ∃ i, i ≤ n ∧ m' = n - i ∧ I i H ∧ env = mkE 23 [(0, .yld), (1, .ptr 7 0), (2, .ptr 6 0), (4, .int .i64 (c i))]) n
    (.keep [0, 1, 2, 4]) (Nat.le_refl _) ⟨0, Nat.zero_le _, rfl, h0, by rw [hc0]; rfl⟩ ?_
  rintro m' env H ⟨i, hi, rfl, hIi, rfl⟩ hh
  obtain ⟨b0, b1, b3, b4, b5, rfl⟩ := hI i H hIi
  refine T_of_W (tab := tabM) (D := []) (tr := noTr) tabM_ok hcx (by kernel_rfl) hh (fun z' S' Q' hz' hS' hQ => ?_)
  have hyi := hy i _ hi hIi
  have hci := hcs i hi
  have hnext : c (i + 1) ≠ x → i < n := fun h => Nat.lt_of_le_of_ne hi (fun e => h (by rw [e]; exact hend))
  have hlast : c (i + 1) = x → I (i + 1) = I (n + 1) := fun h => by
    have : i = n := Nat.le_antisymm hi (Nat.le_of_not_lt (fun hlt => hne i hlt h))
    rw [this]
  have hg : S' .mget mII m (mII.kdec (.int .i64 (c i))) = c (i + 1) := by rw [hS', hci]; rfl
  generalize hcn : c (i + 1) = cn at hyi hnext hlast hg
  generalize c i = ci at hg hyi
  cbv
  rw [hg]
  rw [hS']
  refine ⟨p, fun k _ h => h, YT.mono hyi ?_⟩
  rintro o H' ⟨rfl, hI'⟩
  obtain ⟨b0, b1, b3, b4, b5, rfl⟩ := hI _ _ hI'
  rw [← hS']
  cbv
  rw [hg]
  rcases h1 : z' .eq cn x with _ | _
  · have h1' : cn ≠ x := by
      rw [hz'] at h1
      exact beq_eq_false_iff_ne.1 h1
    cbv
    rw [hg]
    apply hQ
    have hlt := hnext h1'
    exact ⟨_, _, _, by omega, .keep [0, 1, 2, 4], i + 1, hlt, rfl, hI', by rw [hcn]; rfl⟩
  · have h1' : cn = x := by
      rw [hz'] at h1
      exact beq_iff_eq.1 h1
    cbv
    apply hQ
    cbv
    rw [hlast h1'] at hI'
    exact hR' _ hI'


theorem ring1_ct_11_2 (cx : Cx) (p : Ar) (H0 : Heap) (x : Int) (m : List (Int × Int)) (c : Nat → Int) (n : Nat) (I : Nat → Heap → Prop) (hcx : cx.Ok ⟨11, p⟩)
    (hc0 : c 0 = x) (hcs : ∀ i, i ≤ n → c (i + 1) = getI m (c i)) (hne : ∀ i, i < n → c (i + 1) ≠ x) (hend : c (n + 1) = x) (h0 : I 0 H0)
    (hI : ∀ i H, I i H → ∃ b0 b1 b3 b4 b5 b6 b7 b8 : Blk, H = [b0, b1, .map mII m, b3, b4, b5, b6, b7, b8, .cells [.mp 2], .cells [.int .i64 x]])
    (hy : ∀ i H, i ≤ n → I i H → YT Try.prog cx p [.int .i64 (c i), .int .i64 (c (i + 1))] H (fun o H' => o = .ret (.bool true) ∧ I (i + 1) H')) :
    CT Try.prog cx p 63 [.yld, .ptr 10 0, .ptr 9 0] H0 (fun o H' => (∃ v, o = .ret v) ∧ I (n + 1) H') := by
  obtain ⟨b0, b1, b3, b4, b5, b6, b7, b8, rfl⟩ := hI 0 H0 h0
  refine CT_of_W (tab := tabM) (D := []) (tr := noTr) Try.func63 (by kernel_rfl) rfl tabM_ok hcx (by kernel_rfl) (fun z S R hz hS hR => ?_)
  have hR' : ∀ H', I (n + 1) H' → R [] H' := fun H' h => hR _ _ _ _ (Wk.refl _ _) ⟨⟨_, rfl⟩, h⟩
  cbv
  refine tri_loop hS hcx (Nat.le_refl _) (fun m' env H => ∃ i, i ≤ n ∧ m' = n - i ∧ I i H ∧ env = mkE 23 [(0, .yld), (1, .ptr 10 0), (2, .ptr 9 0), (4, .int .i64 (c i))]) n
    (.keep [0, 1, 2, 4]) (Nat.le_refl _) ⟨0, Nat.zero_le _, rfl, h0, by rw [hc0]; rfl⟩ ?_
  rintro m' env H ⟨i, hi, rfl, hIi, rfl⟩ hh
  obtain ⟨b0, b1, b3, b4, b5, b6, b7, b8, rfl⟩ := hI i H hIi
  refine T_of_W (tab := tabM) (D := []) (tr := noTr) tabM_ok hcx (by kernel_rfl) hh (fun z' S' Q' hz' hS' hQ => ?_)
  have hyi := hy i _ hi hIi
  have hci := hcs i hi
  have hnext : c (i + 1) ≠ x → i < n := fun h => Nat.lt_of_le_of_ne hi (fun e => h (by rw [e]; exact hend))
  have hlast : c (i + 1) = x → I (i + 1) = I (n + 1) := fun h => by
    have : i = n := Nat.le_antisymm hi (Nat.le_of_not_lt (fun hlt => hne i hlt h))
    rw [this]
  have hg : S' .mget mII m (mII.kdec (.int .i64 (c i))) = c (i + 1) := by rw [hS', hci]; rfl
  generalize hcn : c (i + 1) = cn at hyi hnext hlast hg
  generalize c i = ci at hg hyi
  cbv
  rw [hg]
  rw [hS']
  refine ⟨p, fun k _ h => h, YT.mono hyi ?_⟩
  rintro o H' ⟨rfl, hI'⟩
  obtain ⟨b0, b1, b3, b4, b5, b6, b7, b8, rfl⟩ := hI _ _ hI'
  rw [← hS']
  cbv
  rw [hg]
  rcases h1 : z' .eq cn x with _ | _
  · have h1' : cn ≠ x := by
      rw [hz'] at h1
      exact beq_eq_false_iff_ne.1 h1
    cbv
    rw [hg]
    apply hQ
    have hlt := hnext h1'
    exact ⟨_, _, _, by omega, .keep [0, 1, 2, 4], i + 1, hlt, rfl, hI', by rw [hcn]; rfl⟩
  · have h1' : cn = x := by
      rw [hz'] at h1
      exact beq_iff_eq.1 h1
    cbv
    apply hQ
    cbv
    rw [hlast h1'] at hI'
    exact hR' _ hI'


theorem ring1_ct_12_1 (cx : Cx) (p : Ar) (H0 : Heap) (x : Int) (m : List (Int × Int)) (c : Nat → Int) (n : Nat) (I : Nat → Heap → Prop) (hcx : cx.Ok ⟨12, p⟩)
    (hc0 : c 0 = x) (hcs : ∀ i, i ≤ n → c (i + 1) = getI m (c i)) (hne : ∀ i, i < n → c (i + 1) ≠ x) (hend : c (n + 1) = x) (h0 : I 0 H0)
    (hI : ∀ i H, I i H → ∃ b0 b2 b3 b4 b5 b6 b7 b8 b9 : Blk, H = [b0, .map mII m, b2, b3, b4, b5, b6, b7, b8, b9, .cells [.mp 1], .cells [.int .i64 x]])
    (hy : ∀ i H, i ≤ n → I i H → YT Try.prog cx p [.int .i64 (c i), .int .i64 (c (i + 1))] H (fun o H' => o = .ret (.bool true) ∧ I (i + 1) H')) :
    CT Try.prog cx p 63 [.yld, .ptr 11 0, .ptr 10 0] H0 (fun o H' => (∃ v, o = .ret v) ∧ I (n + 1) H') := by
  obtain ⟨b0, b2, b3, b4, b5, b6, b7, b8, b9, rfl⟩ := hI 0 H0 h0
  refine CT_of_W (tab := tabM) (D := []) (tr := noTr) Try.func63 (by kernel_rfl) rfl tabM_ok hcx (by kernel_rfl) (fun z S R hz hS hR => ?_)
  have hR' : ∀ H', I (n + 1) H' → R [] H' := fun H' h => hR _ _ _ _ (Wk.refl _ _) ⟨⟨_, rfl⟩, h⟩
  cbv
  refine tri_loop hS hcx (Nat.le_refl _) (fun m' env H => ∃ i, i ≤ n ∧ m' = n - i ∧ I i H ∧ env = mkE 23 [(0, .yld), (1, .ptr 11 0), (2, .ptr 10 0), (4, .int .i64 (c i))]) n
    (.keep [0, 1, 2, 4]) (Nat.le_refl _) ⟨0, Nat.zero_le _, rfl, h0, by rw [hc0]; rfl⟩ ?_
  rintro m' env H ⟨i, hi, rfl, hIi, rfl⟩ hh
  obtain ⟨b0, b2, b3, b4, b5, b6, b7, b8, b9, rfl⟩ := hI i H hIi
  refine T_of_W (tab := tabM) (D := []) (tr := noTr) tabM_ok hcx (by kernel_rfl) hh (fun z' S' Q' hz' hS' hQ => ?_)
  have hyi := hy i _ hi hIi
  have hci := hcs i hi
  have hnext : c (i + 1) ≠ x → i < n := fun h => Nat.lt_of_le_of_ne hi (fun e => h (by rw [e]; exact hend))
  have hlast : c (i + 1) = x → I (i + 1) = I (n + 1) := fun h => by
    have : i = n := Nat.le_antisymm hi (Nat.le_of_not_lt (fun hlt => hne i hlt h))
    rw [this]
  have hg : S' .mget mII m (mII.kdec (.int .i64 (c i))) = c (i + 1) := by rw [hS', hci]; rfl
  generalize hcn : c (i + 1) = cn at hyi hnext hlast hg
  generalize c i = ci at hg hyi
  cbv
  rw [hg]
  rw [hS']
  refine ⟨p, fun k _ h => h, YT.mono hyi ?_⟩
  rintro o H' ⟨rfl, hI'⟩
  obtain ⟨b0, b2, b3, b4, b5, b6, b7, b8, b9, rfl⟩ := hI _ _ hI'
  rw [← hS']
  cbv
  rw [hg]
  rcases h1 : z' .eq cn x with _ | _
  · have h1' : cn ≠ x := by
      rw [hz'] at h1
      exact beq_eq_false_iff_ne.1 h1
    cbv
    rw [hg]
    apply hQ
    have hlt := hnext h1'
    exact ⟨_, _, _, by omega, .keep [0, 1, 2, 4], i + 1, hlt, rfl, hI', by rw [hcn]; rfl⟩
  · have h1' : cn = x := by
      rw [hz'] at h1
      exact beq_iff_eq.1 h1
    cbv
    apply hQ
    cbv
    rw [hlast h1'] at hI'
    exact hR' _ hI'


end Go.Ab

/- The program: round. -/
namespace Go.Ab
open Go.Proofs

theorem CT.mono {P : Program} {cx : Cx} {p : Ar} {f : Nat} {args : List V} {H : Heap} {K K' : Out → Heap → Prop} (h : CT P cx p f args H K) (hk : ∀ o H', K o H' → K' o H') : CT P cx p f args H K' :=
  ⟨h.1, fun G w vs hc s r => CallsIn.mono (h.2 G w vs hc s r) (fun e w' he => by
    obtain ⟨G', x, H', a, b, d, e⟩ := he
    exact ⟨G', x, H', a, b, d, hk _ _ e⟩)⟩

def roundI (sc sp : Int) (s : List Mac × Bool) (c : List Int) : List Mac × Bool :=
  if regsR c = true ∧ sc < 0 then (s.1 ++ (pairs c).map (fun p => swapM p.1 p.2), s.2)
  else if regsR c = false ∧ sp < 0 then (s.1, true)
  else
    let at' := if regsR c then sc else 16 + sp
    let s1 := bringI sc sp s at' (c.getD 0 0)
    let s2 := (pairs c).foldl (fun s p => bringI sc sp s p.1 p.2) s1
    bringI sc sp s2 (c.getD (c.length - 1) 0) at'

def circL (c : Nat → Int) (n : Nat) : List Int := (List.range (n + 1)).map c

def slotsTo (c : Nat → Int) (i : Nat) : Bool := (List.range i).any fun j => decide (16 ≤ c j)

theorem slots_regs (c : Nat → Int) (n : Nat) : regsR (circL c n) = !slotsTo c (n + 1) := by
  rw [regsR, circL, slotsTo, List.all_map, List.all_eq_not_any_not]
  congr 2
  funext j
  by_cases h : c j < 16
  · have h' : ¬ 16 ≤ c j := by omega
    simp [h, h']
  · have h' : 16 ≤ c j := by omega
    simp [h, h']

theorem pairs_circ (c : Nat → Int) (n : Nat) : pairs (circL c n) = (List.range n).map fun j => (c j, c (j + 1)) := by
  apply List.ext_getElem
  · simp [pairs, circL]
  · intro i h1 h2
    simp [pairs, circL]

theorem foldl_congr_mem {α β : Type} {f g : β → α → β} : ∀ (l : List α) (b : β), (∀ a ∈ l, ∀ b, f b a = g b a) → l.foldl f b = l.foldl g b
  | [], b, _ => rfl
  | a :: l, b, h => by
    simp only [List.foldl_cons]
    rw [h a (by simp) b]
    exact foldl_congr_mem l _ (fun a' ha => h a' (by simp [ha]))

/-- What a circle's rounds have laid. -/
def ringTo (sc sp x t : Int) (c : Nat → Int) (s : List Mac × Bool) (i : Nat) : List Mac × Bool :=
  (List.range i).foldl (fun s j => bringI sc sp s (c j) (if c (j + 1) = x then t else c (j + 1))) s

theorem ringTo_end {sc sp x t : Int} {c : Nat → Int} {s : List Mac × Bool} {n : Nat} (hne : ∀ i, i < n → c (i + 1) ≠ x) (hend : c (n + 1) = x) :
    ringTo sc sp x t c s (n + 1) = bringI sc sp ((pairs (circL c n)).foldl (fun s p => bringI sc sp s p.1 p.2) s) ((circL c n).getD ((circL c n).length - 1) 0) t := by
  rw [ringTo, List.range_succ, List.foldl_append, pairs_circ, List.foldl_map]
  simp only [List.foldl_cons, List.foldl_nil, hend, if_pos]
  have h1 : (circL c n).getD ((circL c n).length - 1) 0 = c n := by simp [circL, List.getD_eq_getElem?_getD]
  rw [h1]
  congr 1
  exact foldl_congr_mem _ _ (fun j hj b => by rw [if_neg (hne j (List.mem_range.1 hj))])

theorem circ_zero (c : Nat → Int) (n : Nat) : (circL c n).getD 0 0 = c 0 := by simp [circL, List.getD_eq_getElem?_getD]

theorem bringI_len (sc sp : Int) (s : List Mac × Bool) (to frm : Int) : (bringI sc sp s to frm).1.length ≤ s.1.length + 4 := by
  unfold bringI
  split
  · rename_i c hc
    have := bringC_len hc
    simp; omega
  · simp

theorem may_lay (n : Nat) : ({ n := n, p := eqk 1 } : Lim).may (pullA [0, 1] (eqk 1)) := fun k _ h => by
  match k with
  | 0 => cases h
  | 1 => rfl
  | k + 2 => cases h

def swapsTo (x : Int) (c : Nat → Int) (i : Nat) : List Mac := (List.range i).flatMap fun j => if c (j + 1) = x then [] else [swapM (c j) (c (j + 1))]

theorem swapsTo_succ (x : Int) (c : Nat → Int) (i : Nat) : swapsTo x c (i + 1) = swapsTo x c i ++ if c (i + 1) = x then [] else [swapM (c i) (c (i + 1))] := by
  simp [swapsTo, List.range_succ]

theorem swapsTo_len (x : Int) (c : Nat → Int) : ∀ i, (swapsTo x c i).length ≤ i
  | 0 => by simp [swapsTo]
  | i + 1 => by
    have := swapsTo_len x c i
    rw [swapsTo_succ]
    split <;> simp <;> omega

theorem swapsTo_end {x : Int} {c : Nat → Int} {n : Nat} (hne : ∀ i, i < n → c (i + 1) ≠ x) (hend : c (n + 1) = x) : swapsTo x c (n + 1) = (pairs (circL c n)).map fun p => swapM p.1 p.2 := by
  rw [swapsTo_succ, if_pos hend, List.append_nil, pairs_circ, List.map_map]
  have : ∀ k, k ≤ n → swapsTo x c k = (List.range k).map ((fun p : Int × Int => swapM p.1 p.2) ∘ fun j => (c j, c (j + 1))) := fun k => by
    induction k with
    | zero => intro _; rfl
    | succ k ih =>
      intro hk
      rw [swapsTo_succ, if_neg (hne k hk), ih (by omega), List.range_succ, List.map_append]
      rfl
  exact this n (Nat.le_refl _)

theorem ringTo_succ (sc sp x t : Int) (c : Nat → Int) (s : List Mac × Bool) (i : Nat) : ringTo sc sp x t c s (i + 1) = bringI sc sp (ringTo sc sp x t c s i) (c i) (if c (i + 1) = x then t else c (i + 1)) := by
  simp [ringTo, List.range_succ, List.foldl_append]

set_option maxHeartbeats 1000000 in
theorem roundI_ct (yl : Nat) (n0 : Nat) (sc sp : Int) (lk : Bool) (out : List Mac) (m : List (Int × Int)) (x : Int) (c : Nat → Int) (n : Nat) (hn : n0 = out.length) (hb : n0 ≤ 50000) (hn1 : n ≤ 1000)
    (hc0 : c 0 = x) (hcs : ∀ i, i ≤ n → c (i + 1) = getI m (c i)) (hne : ∀ i, i < n → c (i + 1) ≠ x) (hend : c (n + 1) = x)
    (h1 : ∀ i, i ≤ n → -1000000 ≤ c i ∧ c i ≤ 100000) (h3 : sc ≤ 100000) (h4 : sp ≤ 50000) :
    CT Try.prog (Cx.plain yl) (eqk 1) 38 [.ptr 0 0, .mp 2, .int .i64 x] (layI n0 sc sp lk out ++ [.map mII m])
      (fun o H => ∃ n' lk' out', n' = out'.length ∧ (out', lk') = roundI sc sp (out, lk) (circL c n) ∧ o = .ret (.tuple []) ∧ H = layI n' sc sp lk' out' ++ [.map mII m]) := by
  refine CT_of_W (tab := tabM) (D := []) (tr := noTr) Try.func38 (by kernel_rfl) rfl tabM_ok (Cx.plain_ok _ _) (by kernel_rfl) (fun z S R hz hS hR => ?_)
  cbv
  refine use_ct [2] hS (Cx.plain_ok _ _) rfl (fun yl => ring_ct yl m x) (may_none [2]) ?_
  rintro o h' ⟨rfl, rfl⟩
  cbv
  have hslot : ∀ i, slotsTo c (i + 1) = (slotsTo c i || decide (16 ≤ c i)) := fun i => by simp [slotsTo, List.range_succ, List.any_append]
  refine tri_range noAr (fun H' => ∃ b, b = slotsTo c (n + 1) ∧ H' = [.cells [.ref 1 8 0 n0, .int .i64 sc, .int .i64 sp, .bool lk], .arr 39 elK out, .map mII m, .cells [.ptr 0 0], .cells [.int .i64 x], .cells [.bool b], .cells [.mp 2], .cells [.int .i64 x]])
    hS (Cx.plain_ok _ _) (by show 3 ≤ 8; decide) (fun k _ h => by cases h) rfl rfl rfl rfl ?_ ?_
  · intro cxl hokl hyt
    refine CT.mono (ring1_ct_8_2 cxl noAr _ x m c n (fun i H' => ∃ b, b = slotsTo c i ∧ H' = [.cells [.ref 1 8 0 n0, .int .i64 sc, .int .i64 sp, .bool lk], .arr 39 elK out, .map mII m, .cells [.ptr 0 0], .cells [.int .i64 x], .cells [.bool b], .cells [.mp 2], .cells [.int .i64 x]])
      hokl hc0 hcs hne hend ⟨false, rfl, rfl⟩ (fun i H h => by obtain ⟨b, _, rfl⟩ := h; exact ⟨_, _, _, _, _, rfl⟩) (fun i H hi h => ?_)) (fun o H' h => ?_)
    · obtain ⟨b, hb, rfl⟩ := h
      refine hyt _ _ _ rfl rfl (fun l => ?_)
      have hsl := hslot i
      generalize c i = ci at hsl
      generalize c (i + 1) = cn
      refine T_of_W (tab := tabM) (D := []) (tr := noTr) tabM_ok (Cx.plain_ok _ _) (by kernel_rfl) (Nat.le_refl _) (fun z' S' Q' hz' hS' hQ => ?_)
      cbv
      apply hQ
      refine ⟨rfl, Nat.le_refl _, ?_⟩
      refine T_of_W (tab := tabM) (D := []) (tr := noTr) tabM_ok (Cx.plain_ok _ _) (by kernel_rfl) (Nat.le_refl _) (fun z' S' Q' hz' hS' hQ => ?_)
      cases b with
      | true =>
        cbv
        apply hQ
        exact ⟨rfl, Nat.le_refl _, _, _, Wk.refl _ _, true, by rw [hsl, ← hb]; rfl, rfl⟩
      | false =>
        cbv
        apply hQ
        exact ⟨rfl, Nat.le_refl _, _, _, Wk.refl _ _, z' .le 16 ci, by rw [hsl, ← hb, hz']; rfl, rfl⟩
    · obtain ⟨h1, b, hb, rfl⟩ := h
      exact ⟨h1, rfl, b, hb, rfl⟩
  · rintro H' - ⟨b, hb, rfl⟩
    have hregs : regsR (circL c n) = !b := by rw [slots_regs, hb]
    have fin : ∀ (H1 : Heap) (n' : Nat) (lk' : Bool) (out' : List Mac), n' = out'.length → (out', lk') = roundI sc sp (out, lk) (circL c n) → (∃ r, H1 = layI n' sc sp lk' out' ++ ([.map mII m] ++ r)) → R [] H1 := fun H1 n' lk' out' a b ⟨r, hr⟩ => by
      subst hr
      refine hR _ _ _ _ (.drop 3 ?_ (Nat.le_refl _)) ⟨n', lk', out', a, b, rfl, rfl⟩
      rfl
    have hxb : -1000000 ≤ x ∧ x ≤ 100000 := hc0 ▸ h1 0 (Nat.zero_le _)
    have hcb : ∀ i, i ≤ n → -1000000 ≤ c (i + 1) ∧ c (i + 1) ≤ 100000 := fun i hi => by
      rcases Nat.lt_or_ge i n with h | h
      · exact h1 (i + 1) h
      · have : i = n := Nat.le_antisymm hi h
        rw [this, hend]; exact hxb
    cases b with
    | true =>
      cbv
      rcases h5 : z .lt sp 0 with _ | _
      · have h5' : ¬ sp < 0 := by rw [hz] at h5; exact of_decide_eq_false h5
        have hround : roundI sc sp (out, lk) (circL c n) = bringI sc sp ((pairs (circL c n)).foldl (fun s p => bringI sc sp s p.1 p.2) (bringI sc sp (out, lk) (16 + sp) ((circL c n).getD 0 0))) ((circL c n).getD ((circL c n).length - 1) 0) (16 + sp) := by
          rw [roundI, hregs, if_neg (by simp), if_neg (fun ⟨_, b⟩ => h5' b)]; rfl
        have ht : z .ar .add .i64 16 sp = 16 + sp := by rw [hz]; exact rz_add (by omega) (by omega)
        cbv
        rw [ht]
        generalize ht2 : 16 + sp = t at hround
        cbv
        refine use_ct [0, 1] hS (Cx.plain_ok _ _) rfl (fun yl => bringI_ct yl n0 sc sp t x lk out hn (by omega) (by omega) hxb h3 (by omega)) (may_lay _) ?_
        rintro o h' ⟨n1, lk1, out1, hn1', hs1, rfl, rfl⟩
        have hl1 : n1 ≤ n0 + 4 := by
          have := bringI_len sc sp (out, lk) t x
          rw [← hs1] at this
          rw [hn1', hn]; exact this
        cbv
        refine use_ct [2] hS (Cx.plain_ok _ _) rfl (fun yl => ring_ct yl m x) (may_none [2]) ?_
        rintro o h' ⟨rfl, rfl⟩
        cbv
        refine tri_range (eqk 1) (fun H' => ∃ n' lk' out', n' = out'.length ∧ (out', lk') = ringTo sc sp x t c (out1, lk1) (n + 1) ∧ H' = [.cells [.ref 1 8 0 n', .int .i64 sc, .int .i64 sp, .bool lk'], .arr 39 elK out', .map mII m, .cells [.ptr 0 0], .cells [.int .i64 x], .cells [.bool true], .cells [.mp 2], .cells [.int .i64 x], .cells [.int .i64 t], .cells [.mp 2], .cells [.int .i64 x]])
          hS (Cx.plain_ok _ _) (by show 3 ≤ 11; decide) (fun k _ h => h) rfl rfl rfl rfl ?_ ?_
        · intro cxl hokl hyt
          refine CT.mono (ring1_ct_11_2 cxl (eqk 1) _ x m c n (fun i H' => ∃ n' lk' out', n' = out'.length ∧ n' ≤ n0 + 4 + 4 * i ∧ (out', lk') = ringTo sc sp x t c (out1, lk1) i ∧ H' = [.cells [.ref 1 8 0 n', .int .i64 sc, .int .i64 sp, .bool lk'], .arr 39 elK out', .map mII m, .cells [.ptr 0 0], .cells [.int .i64 x], .cells [.bool true], .cells [.mp 2], .cells [.int .i64 x], .cells [.int .i64 t], .cells [.mp 2], .cells [.int .i64 x]])
            hokl hc0 hcs hne hend ⟨n1, lk1, out1, hn1', by omega, rfl, rfl⟩ (fun i H h => by obtain ⟨_, _, _, _, _, _, rfl⟩ := h; exact ⟨_, _, _, _, _, _, _, _, rfl⟩) (fun i H hi h => ?_)) (fun o H' h => ?_)
          · obtain ⟨n', lk', out', hn', hle, hs', rfl⟩ := h
            refine hyt _ _ _ rfl rfl (fun l => ?_)
            have hstep := ringTo_succ sc sp x t c (out1, lk1) i
            rw [← hs'] at hstep
            have hci := h1 i hi
            have hcn := hcb i hi
            generalize c (i + 1) = cn at hstep hcn
            generalize c i = ci at hstep hci
            refine T_of_W (tab := tabM) (D := []) (tr := noTr) tabM_ok (Cx.plain_ok _ _) (by kernel_rfl) (Nat.le_refl _) (fun z' S' Q' hz' hS' hQ => ?_)
            cbv
            apply hQ
            refine ⟨rfl, Nat.le_refl _, ?_⟩
            refine T_of_W (tab := tabM) (D := []) (tr := noTr) tabM_ok (Cx.plain_ok _ _) (by kernel_rfl) (Nat.le_refl _) (fun z' S' Q' hz' hS' hQ => ?_)
            cbv
            rcases h9 : z' .eq cn x with _ | _
            · have h9' : cn ≠ x := by rw [hz'] at h9; exact beq_eq_false_iff_ne.1 h9
              rw [if_neg h9'] at hstep
              cbv
              refine use_ct [0, 1] hS' (Cx.plain_ok _ _) rfl (fun yl => bringI_ct yl n' sc sp ci cn lk' out' hn' (by omega) hci hcn h3 (by omega)) (may_lay _) ?_
              rintro o h' ⟨n2, lk2, out2, hn2, hs2, rfl, rfl⟩
              have hl2 := bringI_len sc sp (out', lk') ci cn
              rw [← hs2, ← hn', ← hn2] at hl2
              cbv
              apply hQ
              exact ⟨rfl, Nat.le_refl _, _, _, Wk.refl _ _, n2, lk2, out2, hn2, by omega, by rw [hstep]; exact hs2, rfl⟩
            · have h9' : cn = x := by rw [hz'] at h9; exact beq_iff_eq.1 h9
              rw [if_pos h9'] at hstep
              cbv
              refine use_ct [0, 1] hS' (Cx.plain_ok _ _) rfl (fun yl => bringI_ct yl n' sc sp ci t lk' out' hn' (by omega) hci (by omega) h3 (by omega)) (may_lay _) ?_
              rintro o h' ⟨n2, lk2, out2, hn2, hs2, rfl, rfl⟩
              have hl2 := bringI_len sc sp (out', lk') ci t
              rw [← hs2, ← hn', ← hn2] at hl2
              cbv
              apply hQ
              exact ⟨rfl, Nat.le_refl _, _, _, Wk.refl _ _, n2, lk2, out2, hn2, by omega, by rw [hstep]; exact hs2, rfl⟩
          · obtain ⟨h1', n', lk', out', hn', _, hs', rfl⟩ := h
            exact ⟨h1', rfl, n', lk', out', hn', hs', rfl⟩
        · rintro H' - ⟨n', lk', out', hn', hs', rfl⟩
          cbv
          refine fin _ n' lk' out' hn' ?_ ⟨_, rfl⟩
          rw [hs', ringTo_end hne hend, hs1, hround, circ_zero, hc0]
      · have h5' : sp < 0 := by rw [hz] at h5; exact of_decide_eq_true h5
        cbv
        exact fin _ n0 true out hn (by rw [roundI, hregs, if_neg (by simp), if_pos ⟨rfl, h5'⟩]) ⟨_, rfl⟩
    | false =>
      cbv
      rcases h5 : z .lt sc 0 with _ | _
      · have h5' : ¬ sc < 0 := by rw [hz] at h5; exact of_decide_eq_false h5
        have hround : roundI sc sp (out, lk) (circL c n) = bringI sc sp ((pairs (circL c n)).foldl (fun s p => bringI sc sp s p.1 p.2) (bringI sc sp (out, lk) sc ((circL c n).getD 0 0))) ((circL c n).getD ((circL c n).length - 1) 0) sc := by
          rw [roundI, hregs, if_neg (fun ⟨_, b⟩ => h5' b), if_neg (fun ⟨a, _⟩ => by cases a)]; rfl
        cbv
        refine use_ct [0, 1] hS (Cx.plain_ok _ _) rfl (fun yl => bringI_ct yl n0 sc sp sc x lk out hn (by omega) (by omega) hxb h3 (by omega)) (may_lay _) ?_
        rintro o h' ⟨n1, lk1, out1, hn1', hs1, rfl, rfl⟩
        have hl1 : n1 ≤ n0 + 4 := by
          have := bringI_len sc sp (out, lk) sc x
          rw [← hs1] at this
          rw [hn1', hn]; exact this
        cbv
        refine use_ct [2] hS (Cx.plain_ok _ _) rfl (fun yl => ring_ct yl m x) (may_none [2]) ?_
        rintro o h' ⟨rfl, rfl⟩
        cbv
        refine tri_range (eqk 1) (fun H' => ∃ n' lk' out', n' = out'.length ∧ (out', lk') = ringTo sc sp x sc c (out1, lk1) (n + 1) ∧ H' = [.cells [.ref 1 8 0 n', .int .i64 sc, .int .i64 sp, .bool lk'], .arr 39 elK out', .map mII m, .cells [.ptr 0 0], .cells [.int .i64 x], .cells [.bool false], .cells [.mp 2], .cells [.int .i64 x], .cells [.int .i64 sc], .cells [.mp 2], .cells [.int .i64 x]])
          hS (Cx.plain_ok _ _) (by show 3 ≤ 11; decide) (fun k _ h => h) rfl rfl rfl rfl ?_ ?_
        · intro cxl hokl hyt
          refine CT.mono (ring1_ct_11_2 cxl (eqk 1) _ x m c n (fun i H' => ∃ n' lk' out', n' = out'.length ∧ n' ≤ n0 + 4 + 4 * i ∧ (out', lk') = ringTo sc sp x sc c (out1, lk1) i ∧ H' = [.cells [.ref 1 8 0 n', .int .i64 sc, .int .i64 sp, .bool lk'], .arr 39 elK out', .map mII m, .cells [.ptr 0 0], .cells [.int .i64 x], .cells [.bool false], .cells [.mp 2], .cells [.int .i64 x], .cells [.int .i64 sc], .cells [.mp 2], .cells [.int .i64 x]])
            hokl hc0 hcs hne hend ⟨n1, lk1, out1, hn1', by omega, rfl, rfl⟩ (fun i H h => by obtain ⟨_, _, _, _, _, _, rfl⟩ := h; exact ⟨_, _, _, _, _, _, _, _, rfl⟩) (fun i H hi h => ?_)) (fun o H' h => ?_)
          · obtain ⟨n', lk', out', hn', hle, hs', rfl⟩ := h
            refine hyt _ _ _ rfl rfl (fun l => ?_)
            have hstep := ringTo_succ sc sp x sc c (out1, lk1) i
            rw [← hs'] at hstep
            have hci := h1 i hi
            have hcn := hcb i hi
            generalize c (i + 1) = cn at hstep hcn
            generalize c i = ci at hstep hci
            refine T_of_W (tab := tabM) (D := []) (tr := noTr) tabM_ok (Cx.plain_ok _ _) (by kernel_rfl) (Nat.le_refl _) (fun z' S' Q' hz' hS' hQ => ?_)
            cbv
            apply hQ
            refine ⟨rfl, Nat.le_refl _, ?_⟩
            refine T_of_W (tab := tabM) (D := []) (tr := noTr) tabM_ok (Cx.plain_ok _ _) (by kernel_rfl) (Nat.le_refl _) (fun z' S' Q' hz' hS' hQ => ?_)
            cbv
            rcases h9 : z' .eq cn x with _ | _
            · have h9' : cn ≠ x := by rw [hz'] at h9; exact beq_eq_false_iff_ne.1 h9
              rw [if_neg h9'] at hstep
              cbv
              refine use_ct [0, 1] hS' (Cx.plain_ok _ _) rfl (fun yl => bringI_ct yl n' sc sp ci cn lk' out' hn' (by omega) hci hcn h3 (by omega)) (may_lay _) ?_
              rintro o h' ⟨n2, lk2, out2, hn2, hs2, rfl, rfl⟩
              have hl2 := bringI_len sc sp (out', lk') ci cn
              rw [← hs2, ← hn', ← hn2] at hl2
              cbv
              apply hQ
              exact ⟨rfl, Nat.le_refl _, _, _, Wk.refl _ _, n2, lk2, out2, hn2, by omega, by rw [hstep]; exact hs2, rfl⟩
            · have h9' : cn = x := by rw [hz'] at h9; exact beq_iff_eq.1 h9
              rw [if_pos h9'] at hstep
              cbv
              refine use_ct [0, 1] hS' (Cx.plain_ok _ _) rfl (fun yl => bringI_ct yl n' sc sp ci sc lk' out' hn' (by omega) hci (by omega) h3 (by omega)) (may_lay _) ?_
              rintro o h' ⟨n2, lk2, out2, hn2, hs2, rfl, rfl⟩
              have hl2 := bringI_len sc sp (out', lk') ci sc
              rw [← hs2, ← hn', ← hn2] at hl2
              cbv
              apply hQ
              exact ⟨rfl, Nat.le_refl _, _, _, Wk.refl _ _, n2, lk2, out2, hn2, by omega, by rw [hstep]; exact hs2, rfl⟩
          · obtain ⟨h1', n', lk', out', hn', _, hs', rfl⟩ := h
            exact ⟨h1', rfl, n', lk', out', hn', hs', rfl⟩
        · rintro H' - ⟨n', lk', out', hn', hs', rfl⟩
          cbv
          refine fin _ n' lk' out' hn' ?_ ⟨_, rfl⟩
          rw [hs', ringTo_end hne hend, hs1, hround, circ_zero, hc0]
      · have h5' : sc < 0 := by rw [hz] at h5; exact of_decide_eq_true h5
        cbv
        refine use_ct [2] hS (Cx.plain_ok _ _) rfl (fun yl => ring_ct yl m x) (may_none [2]) ?_
        rintro o h' ⟨rfl, rfl⟩
        cbv
        refine tri_range (eqk 1) (fun H' => ∃ n' out', n' = out'.length ∧ out' = out ++ swapsTo x c (n + 1) ∧ H' = [.cells [.ref 1 8 0 n', .int .i64 sc, .int .i64 sp, .bool lk], .arr 39 elK out', .map mII m, .cells [.ptr 0 0], .cells [.int .i64 x], .cells [.bool false], .cells [.mp 2], .cells [.int .i64 x], .cells [.int .i64 sc], .cells [.mp 2], .cells [.int .i64 x]])
          hS (Cx.plain_ok _ _) (by show 3 ≤ 11; decide) (fun k _ h => h) rfl rfl rfl rfl ?_ ?_
        · intro cxl hokl hyt
          refine CT.mono (ring1_ct_11_2 cxl (eqk 1) _ x m c n (fun i H' => ∃ n' out', n' = out'.length ∧ n' ≤ n0 + i ∧ out' = out ++ swapsTo x c i ∧ H' = [.cells [.ref 1 8 0 n', .int .i64 sc, .int .i64 sp, .bool lk], .arr 39 elK out', .map mII m, .cells [.ptr 0 0], .cells [.int .i64 x], .cells [.bool false], .cells [.mp 2], .cells [.int .i64 x], .cells [.int .i64 sc], .cells [.mp 2], .cells [.int .i64 x]])
            hokl hc0 hcs hne hend ⟨n0, out, hn, by omega, by simp [swapsTo], rfl⟩ (fun i H h => by obtain ⟨_, _, _, _, _, rfl⟩ := h; exact ⟨_, _, _, _, _, _, _, _, rfl⟩) (fun i H hi h => ?_)) (fun o H' h => ?_)
          · obtain ⟨n', out', hn', hle, ho', rfl⟩ := h
            refine hyt _ _ _ rfl rfl (fun l => ?_)
            have hstep := swapsTo_succ x c i
            generalize c (i + 1) = cn at hstep
            generalize c i = ci at hstep
            refine T_of_W (tab := tabM) (D := []) (tr := noTr) tabM_ok (Cx.plain_ok _ _) (by kernel_rfl) (Nat.le_refl _) (fun z' S' Q' hz' hS' hQ => ?_)
            cbv
            apply hQ
            refine ⟨rfl, Nat.le_refl _, ?_⟩
            refine T_of_W (tab := tabM) (D := []) (tr := noTr) tabM_ok (Cx.plain_ok _ _) (by kernel_rfl) (Nat.le_refl _) (fun z' S' Q' hz' hS' hQ => ?_)
            cbv
            rcases h9 : z' .ne cn x with _ | _
            · have h9' : cn = x := by
                rw [hz'] at h9
                have : (cn != x) = false := h9
                simpa using this
              rw [if_pos h9'] at hstep
              cbv
              apply hQ
              exact ⟨rfl, Nat.le_refl _, _, _, Wk.refl _ _, n', out', hn', by omega, by rw [hstep, ho', List.append_nil], rfl⟩
            · have h9' : cn ≠ x := by
                rw [hz'] at h9
                have : (cn != x) = true := h9
                simpa using this
              rw [if_neg h9'] at hstep
              cbv
              refine use_ct [0, 1] hS' (Cx.plain_ok _ _) rfl (fun yl => lay_ct yl n' sc sp lk out' [swapM ci cn] _ rfl hn' (by simp; omega)) (may_lay _) ?_
              rintro o h' ⟨n2, out2, hn2, ho2, rfl, rfl⟩
              cbv
              apply hQ
              exact ⟨rfl, Nat.le_refl _, _, _, Wk.refl _ _, n2, out2, hn2, by rw [hn2, ho2, List.length_append, ← hn']; simp; omega, by rw [ho2, hstep, ho', List.append_assoc], rfl⟩
          · obtain ⟨h1', n', out', hn', _, ho', rfl⟩ := h
            exact ⟨h1', rfl, n', out', hn', ho', rfl⟩
        · rintro H' - ⟨n', out', hn', ho', rfl⟩
          cbv
          refine fin _ n' lk out' hn' ?_ ⟨_, rfl⟩
          rw [roundI, hregs, if_pos ⟨rfl, h5'⟩, ho', swapsTo_end hne hend]
end Go.Ab
