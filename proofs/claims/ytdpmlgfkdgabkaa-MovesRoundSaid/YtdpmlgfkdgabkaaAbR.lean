/- Contracts of the program's functions over an abstract state, and what they rest on: part AbR. No condition. -/
import Derived.Test.YtdpmlgfkdgabkaaAbM
import Derived.Test.YtdpmlgfkdgabkaaAbO
import Derived.Deep.Slices
set_option linter.unusedVariables false
set_option linter.unusedSimpArgs false

/- From contracts to the given rows: more of what comes in. -/
namespace Go.Ab
open Go.Proofs Go.ChangeShapes Go.WideShapes Go.RowKit

theorem cell_lt {w : World} {a : Addr} {v : Value} (h : w.cell? a = some v) : a.block < w.heap.size ∧ a.spot = none := by
  unfold World.cell? at h
  split at h
  · next hh =>
    refine ⟨(Array.getElem?_eq_some_iff.1 hh).1, ?_⟩
    split at h
    · cases h
    · next hs => exact Option.not_isSome_iff_eq_none.1 hs
  · cases h

theorem flatten_in {α : Type _} {n : Nat} (hn : 0 < n) {ess : List (List α)} (hl : ∀ c ∈ ess, c.length = n) {j : Nat} {y : α} (h : ess.flatten[j]? = some y) :
    ∃ c, ess[j / n]? = some c ∧ c[j % n]? = some y ∧ j / n < ess.length := by
  have hj : j < ess.length * n := by rw [← flatten_len hl]; exact (List.getElem?_eq_some_iff.1 h).1
  have hq : j / n < ess.length := Nat.div_lt_of_lt_mul (by rw [Nat.mul_comm]; exact hj)
  refine ⟨ess[j / n], List.getElem?_eq_getElem hq, ?_, hq⟩
  have := flatten_get hl (j / n) (j % n) _ (List.getElem?_eq_getElem hq) (Nat.mod_lt _ hn)
  rw [Nat.div_add_mod'] at this
  rw [← this]; exact h

section
variable {H : Type} {enc : TypeId × Value → H} {P : Program} {W : World} {base : Nat} {spare : Nat → Bool} {held : Bool}

theorem rows_lit {n : Nat} (hn : 0 < n) (a : Addr) (len cap : Nat) (hl : len ≤ cap) (hm : cap ≤ maxLen) (q : Nat → List V) (g : Nat → Nat → Value) (hq : ∀ i < len, (q i).length = n) (hflat : ∀ i < len, ∀ y ∈ q i, V.flat y = true)
    (hc : ∀ i < len, ∀ j < n, W.cell? (a.add (i * n + j)) = some (g i j)) (hr : ∀ i < len, ∀ (j : Nat) y, (q i)[j]? = some y → Rep (G0 W) W (g i j) y) (hp : 0 < cap → a.block < W.heap.size ∧ a.spot = none) :
    Rep (G0 W) W (.slice (some a) len cap) (.lit n ((List.range len).map q) false) := by
  have hx : ∀ c ∈ (List.range len).map q, c.length = n := fun c hc => by
    obtain ⟨i, hi, rfl⟩ := List.mem_map.1 hc
    exact hq i (List.mem_range.1 hi)
  have key : ∀ (j : Nat) y, ((List.range len).map q).flatten[j]? = some y → j / n < len ∧ (q (j / n))[j % n]? = some y := fun j y h => by
    obtain ⟨c, h1, h2, h3⟩ := flatten_in hn hx h
    have h3' : j / n < len := by simpa using h3
    rw [List.getElem?_map, List.getElem?_range h3'] at h1
    cases h1
    exact ⟨h3', h2⟩
  have := Rep.lit (G := G0 W) (w := W) n ((List.range len).map q) false (some a) cap (fun j => g (j / n) (j % n)) (by simpa using hl) hm (fun h => by cases h) (fun h => by cases h)
    (fun p hp' h0 => by cases hp'; exact hp h0) hx
    (fun y hy => by
      obtain ⟨j, hj⟩ := List.mem_iff_getElem?.1 hy
      obtain ⟨h1, h2⟩ := key j y hj
      exact hflat _ h1 y (List.mem_of_getElem? h2))
    (fun p j y hp' hy => by
      cases hp'
      obtain ⟨h1, h2⟩ := key j y hy
      have := hc _ h1 (j % n) (Nat.mod_lt _ hn)
      rwa [Nat.div_add_mod'] at this)
    (fun j y hy => by
      obtain ⟨h1, h2⟩ := key j y hy
      exact hr _ h1 _ _ h2)
  simpa only [List.length_map, List.length_range] using this

/-- Whole numbers of any kind, by what is read alone. -/
theorem trod_nums {t e : TypeId} {k : IntKind} {fuel : Nat} {v : Value} {x : DataW H × List MemPlace} (ht : P.underlying t = some (.slice e)) (he : P.underlying e = some (.int k)) (hc : P.cellsOf e = 1)
    (h : DataW.trod enc P W 0 (fun _ => true) held fuel t [v] = some x) : ∃ xs : List Int, Rep (G0 W) W v (.sl Int 0 1 (fun y => [.int k y]) false xs) := by
  rcases open_ints ht he hc h with ⟨hcs, _⟩ | ⟨a, len, cap, zs, hcs, _, hl, hm, hz, _, hcell, hwz⟩
  · cases hcs
    exact ⟨[], .sl _ _ _ _ _ _ _ (nils_lit 1 false)⟩
  · cases hcs
    have hz' : zs.length = cap := by simpa using hz
    refine ⟨(List.range len).map (fun i => zs.getD i 0), .sl _ _ _ _ _ _ _ ?_⟩
    rw [List.map_map]
    refine rows_lit (n := 1) (by decide) a len cap hl hm _ (fun i _ => .int k (zs.getD i 0)) (fun _ _ => rfl) (fun i _ y hy => ?_) (fun i hi j hj => ?_) (fun i hi j y hy => ?_) (fun h0 => ?_)
    · cases List.mem_singleton.1 hy; rfl
    · have e1 : i * 1 + j = i := by omega
      rw [e1]; exact hcell i (by omega)
    · match j with
      | 0 =>
        cases hy
        refine .int _ _ (wf_has (hwz _ ?_))
        rw [List.getD_eq_getElem?_getD, List.getElem?_eq_getElem (by omega)]
        exact List.getElem_mem _
      | j + 1 => simp at hy
    · exact cell_lt (hcell 0 (by omega))

theorem in_ints32 {t e : TypeId} {v : Value} {d : DataW H} {p : List MemPlace} (ht : P.underlying t = some (.slice e)) (he : P.underlying e = some (.int .i32)) (hc : P.cellsOf e = 1)
    (hv : Value.okWide P W .any base t v) (h : DataW.Trod enc P W 0 (fun _ => true) held t v d p) : ∃ xs : List Int, Rep (G0 W) W v (vJ false xs) := by
  obtain ⟨a0, len0, cap0, rfl⟩ := okWide_slice ht hv
  obtain ⟨fuel, hf⟩ := h
  exact trod_nums ht he hc hf

theorem in_bool {t : TypeId} {v : Value} (ht : P.underlying t = some .bool) (hv : Value.okWide P W .any base t v) : ∃ b, Rep (G0 W) W v (.bool b) := by
  obtain ⟨b, rfl⟩ := okWide_bool ht hv
  exact ⟨b, .bool b⟩

theorem in_int {t : TypeId} {k : IntKind} {v : Value} (ht : P.underlying t = some (.int k)) (hv : Value.okWide P W .any base t v) : ∃ x, k.has x ∧ Rep (G0 W) W v (.int k x) := by
  obtain ⟨x, rfl⟩ := okWide_int ht hv
  have : k.has x := by
    simp only [Value.okWide, ht, Cell.okWide, Cell.ok] at hv
    exact hv.2
  exact ⟨x, this, .int _ _ this⟩

/-- Instructions that came in. -/
theorem in_macs {t e : TypeId} {fs : Array Field} {v : Value} {d : DataW H} {p : List MemPlace} (ht : P.underlying t = some (.slice e)) (he : P.underlying e = some (.struct fs)) (ce : P.cellsOf e = 8)
    (hfs : ∀ i < 6, ∃ f, fs[i]? = some f ∧ f.offset = i ∧ P.cellsOf f.type = 1 ∧ P.underlying f.type = some (.int .i64))
    (h6 : ∃ f, fs[6]? = some f ∧ f.offset = 6 ∧ P.cellsOf f.type = 1 ∧ P.underlying f.type = some (.int .i32))
    (h7 : ∃ f u, fs[7]? = some f ∧ f.offset = 7 ∧ P.cellsOf f.type = 1 ∧ P.underlying f.type = some (.slice u) ∧ P.underlying u = some (.int .i64) ∧ P.cellsOf u = 1)
    (hv : Value.okWide P W .any base t v) (h : DataW.Trod enc P W 0 (fun _ => true) held t v d p) : ∃ xs : List MacX, Rep (G0 W) W v (vX false xs) := by
  obtain ⟨a0, len0, cap0, rfl⟩ := okWide_slice ht hv
  obtain ⟨fuel, hf⟩ := h
  rcases Deep.open_slice ht hf with ⟨hcs, _⟩ | ⟨a, len, cap, m, n, D, Pl, hcs, _, hl, hm, hmm, _, hx⟩
  · simp [Value.cells] at hcs
    obtain ⟨rfl, rfl, rfl⟩ := hcs
    exact ⟨[], .sl _ _ _ _ _ _ _ (nils_lit 8 false)⟩
  · simp [Value.cells] at hcs
    obtain ⟨rfl, rfl, rfl⟩ := hcs
    have hm' : m = cap0 := by simpa using hmm
    have each : ∀ i, i < m → ∃ q : MacX × (Nat → Value), (∀ j < 8, W.cell? (a.add (i * 8 + j)) = some (q.2 j)) ∧ ∀ (j : Nat) y, (encX q.1)[j]? = some y → Rep (G0 W) W (q.2 j) y := fun i hi => by
      obtain ⟨cs, h1, h2⟩ := hx i hi
      rw [ce] at h1
      obtain ⟨_, hlen, hcell⟩ := World.cells?_some h1
      obtain ⟨xs, k, _, _, _, _, hg⟩ := DataW.trod_struct he h2
      have get : ∀ j (hj : j < 8) (f : Field), fs[j]? = some f → f.offset = j → P.cellsOf f.type = 1 → ∃ y, DataW.trod enc P W 0 (fun _ => true) held k f.type [cs.getD j default] = some y := fun j hj f hf ho hc => by
        have := hg j f hf
        have hjx : j < xs.length := by
          rename_i hxl
          rw [hxl]
          exact (Array.getElem?_eq_some_iff.1 hf).1
        rw [ho, hc, List.getElem?_eq_getElem hjx] at this
        have e1 : (cs.drop j).take 1 = [cs.getD j default] := by
          rw [List.drop_eq_getElem_cons (by omega), List.take_succ_cons, List.take_zero, List.getD_eq_getElem?_getD, List.getElem?_eq_getElem (by omega)]
          rfl
        rw [e1] at this
        exact ⟨_, this⟩
      have int : ∀ j < 6, ∃ x, cs.getD j default = .int .i64 x ∧ IntKind.i64.has x := fun j hj => by
        obtain ⟨f, e1, e2, e3, e4⟩ := hfs j hj
        obtain ⟨y, hy⟩ := get j (by omega) f e1 e2 e3
        exact trod_int_val e4 hy
      obtain ⟨x0, a0, b0⟩ := int 0 (by decide)
      obtain ⟨x1, a1, b1⟩ := int 1 (by decide)
      obtain ⟨x2, a2, b2⟩ := int 2 (by decide)
      obtain ⟨x3, a3, b3⟩ := int 3 (by decide)
      obtain ⟨x4, a4, b4⟩ := int 4 (by decide)
      obtain ⟨x5, a5, b5⟩ := int 5 (by decide)
      obtain ⟨x6, a6, b6⟩ : ∃ x, cs.getD 6 default = .int .i32 x ∧ IntKind.i32.has x := by
        obtain ⟨f, e1, e2, e3, e4⟩ := h6
        obtain ⟨y, hy⟩ := get 6 (by omega) f e1 e2 e3
        exact trod_int_val e4 hy
      obtain ⟨gs, hgs⟩ : ∃ gs : List Int, Rep (G0 W) W (cs.getD 7 default) (vInts gs) := by
        obtain ⟨f, u, e1, e2, e3, e4, e5, e6⟩ := h7
        obtain ⟨y, hy⟩ := get 7 (by omega) f e1 e2 e3
        exact trod_nums e4 e5 e6 hy
      refine ⟨((⟨x0, x1, x2, x3, x4, x5, x6⟩, gs), fun j => cs.getD j default), fun j hj => ?_, fun j y hy => ?_⟩
      · have := hcell j hj
        rw [Deep.add_add] at this
        show _ = some (cs.getD j default)
        rw [this, List.getD_eq_getElem?_getD, List.getElem?_eq_getElem (by omega)]
        rfl
      · show Rep (G0 W) W (cs.getD j default) y
        match j with
        | 0 => cases hy; rw [a0]; exact .int _ _ b0
        | 1 => cases hy; rw [a1]; exact .int _ _ b1
        | 2 => cases hy; rw [a2]; exact .int _ _ b2
        | 3 => cases hy; rw [a3]; exact .int _ _ b3
        | 4 => cases hy; rw [a4]; exact .int _ _ b4
        | 5 => cases hy; rw [a5]; exact .int _ _ b5
        | 6 => cases hy; rw [a6]; exact .int _ _ b6
        | 7 => cases hy; exact hgs
        | j + 8 => simp [encX] at hy
    have : Inhabited (MacX × (Nat → Value)) := ⟨((⟨0, 0, 0, 0, 0, 0, 0⟩, []), fun _ => default)⟩
    obtain ⟨q, hq⟩ := Deep.choose_lt each
    refine ⟨(List.range len0).map (fun i => (q i).1), .sl _ _ _ _ _ _ _ ?_⟩
    rw [List.map_map]
    refine rows_lit (n := 8) (by decide) a len0 cap0 hl hm _ (fun i => (q i).2) (fun _ _ => rfl) (fun i hi y hy => ?_) (fun i hi j hj => (hq i (by omega)).1 j hj) (fun i hi j y hy => (hq i (by omega)).2 j y hy) (fun h0 => ?_)
    · obtain ⟨j, hj⟩ := List.mem_iff_getElem?.1 hy
      have hj' : (encX (q i).1)[j]? = some y := hj
      generalize (q i).1 = z at hj'
      match j with
      | 0 => cases hj'; rfl
      | 1 => cases hj'; rfl
      | 2 => cases hj'; rfl
      | 3 => cases hj'; rfl
      | 4 => cases hj'; rfl
      | 5 => cases hj'; rfl
      | 6 => cases hj'; rfl
      | 7 => cases hj'; rfl
      | j + 8 => simp [encX] at hj'
    · have := (hq 0 (by omega)).1 0 (by decide)
      exact cell_lt this
end
end Go.Ab
