/- Contracts of the program's functions over an abstract state, and what they rest on: part AbM. No condition. -/
import Derived.Test.YtdpmlgfkdgabkaaAbD
import Derived.Below
import Derived.Carry
import Derived.Deep.SlicePairs
import Derived.ChangeSlices
import Derived.ProofKit
set_option linter.unusedVariables false
set_option linter.unusedSimpArgs false

/- From contracts to the given rows: what comes in. -/
namespace Go.Ab
open Go.Proofs Go.ChangeShapes Go.WideShapes Go.RowKit

/-- All that there is stays. -/
def G0 (w : World) : Gh := { prot := fun b => b < w.heap.size, fr := fun _ => False, n := 0, blk := fun _ => 0, arv := fun _ => .slice none 0 0, yl := 0, marks := [] }

theorem simH0 (w : World) : SimH (G0 w) w [] :=
  ⟨rfl, fun k b h => by simp at h, fun k b q h => by simp at h, fun k k' b b' q h => by simp at h, fun q h => h, fun k b q h => by simp at h, fun q h => h.elim⟩

theorem law_calls {f : Nat} {args : List V} {vs : Array Value} {w : World} (h : CT Try.prog (Cx.plain 0) noAr f args [] (fun o H => o = .ret (.bool true) ∧ H = [])) (r : RepL (G0 w) w vs.toList args) :
    Calls Try.prog f vs w (fun e w' => e = .returned (.bool true) ∧ Below w.heap.size w w') := by
  have hc := callsIn_wide.1 (h.2 (G0 w) w vs rfl (simH0 w) r)
  refine hc.mono ?_
  rintro e w' ⟨G', x, H', hend, hext, _, rfl, _⟩
  cases e with
  | returned v =>
    have : Rep G' w' v (.bool true) := hend
    rw [this.bool_inv]
    exact ⟨rfl, hext.os, hext.tape, hext.output, hext.size, fun k hk => hext.keep k hk⟩
  | panicked c => exact hend.elim
  | outgrown => exact hend.elim

theorem ok_addr {P : Program} {W : World} {base : Nat} {t e : TypeId} {a : Addr} {len cap : Nat} (ht : P.underlying t = some (.slice e)) (h : Value.okWide P W .any base t (.slice (some a) len cap)) : a.block < W.heap.size ∧ a.spot = none := by
  simp only [Value.okWide, ht, Cell.okWide, Cell.ok] at h
  obtain ⟨_, _, _, hs, row, cells, hsh, _⟩ := h
  refine ⟨?_, hs⟩
  unfold World.shape? at hsh
  cases hh : W.heap[a.block]? with
  | none => rw [hh] at hsh; cases hsh
  | some x => exact (Array.getElem?_eq_some_iff.1 hh).1

theorem flat_ints : ∀ xs : List Int, (xs.map encI).flatten = xs.map (fun x => V.int .i64 x)
  | [] => rfl
  | x :: xs => by simp [encI, flat_ints xs]

theorem flat_ints32 : ∀ xs : List Int, (xs.map encJ).flatten = xs.map (fun x => V.int .i32 x)
  | [] => rfl
  | x :: xs => by simp [encJ, flat_ints32 xs]

theorem wf_has {k : IntKind} {n : Int} (h : (Lit.int k n).wf = true) : k.has n := by
  simp only [Lit.wf, Bool.and_eq_true, decide_eq_true_eq] at h
  exact h

section
variable {H : Type} {enc : TypeId × Value → H} {P : Program} {W : World} {base : Nat} {spare : Nat → Bool} {held : Bool}

/-- Whole numbers that came in. -/
theorem in_ints {t e : TypeId} {v : Value} {d : DataW H} {p : List MemPlace} (ht : P.underlying t = some (.slice e)) (he : P.underlying e = some (.int .i64)) (hc : P.cellsOf e = 1)
    (hv : Value.okWide P W .any base t v) (h : DataW.Trod enc P W 0 (fun _ => true) held t v d p) : ∃ xs : List Int, Rep (G0 W) W v (.sl Int 0 1 encI false xs) := by
  obtain ⟨a0, len0, cap0, rfl⟩ := okWide_slice ht hv
  obtain ⟨fuel, hf⟩ := h
  rcases open_ints ht he hc hf with ⟨hcs, _⟩ | ⟨a, len, cap, zs, hcs, _, hl, hm, hz, _, hcell, hwz⟩
  · simp [Value.cells] at hcs
    obtain ⟨rfl, rfl, rfl⟩ := hcs
    exact ⟨[], .sl _ _ _ _ _ _ _ (nils_lit 1 false)⟩
  · simp [Value.cells] at hcs
    obtain ⟨rfl, rfl, rfl⟩ := hcs
    obtain ⟨hb, hs⟩ := ok_addr ht hv
    have hz' : zs.length = cap0 := by simpa using hz
    have hlen : (zs.take len0).length = len0 := by rw [List.length_take]; omega
    refine ⟨zs.take len0, .sl _ _ _ _ _ _ _ ?_⟩
    have := Rep.lit (G := G0 W) (w := W) 1 ((zs.take len0).map encI) false (some a) cap0 (fun j => .int .i64 (zs.getD j 0)) (by rw [List.length_map, hlen]; exact hl) hm (fun h => by cases h) (fun h => by cases h)
      (fun p hp _ => by cases hp; exact ⟨hb, hs⟩) (fun c hc => by obtain ⟨x, _, rfl⟩ := List.mem_map.1 hc; rfl) (fun y hy => by rw [flat_ints] at hy; obtain ⟨x, _, rfl⟩ := List.mem_map.1 hy; rfl)
      (fun p j y hp hy => by
        cases hp
        rw [flat_ints, List.getElem?_map] at hy
        obtain ⟨x, hx, rfl⟩ := Option.map_eq_some_iff.1 hy
        have hj := (List.getElem?_eq_some_iff.1 hx).1
        exact hcell j (by rw [hlen] at hj; omega))
      (fun j y hy => by
        rw [flat_ints, List.getElem?_map] at hy
        obtain ⟨x, hx, rfl⟩ := Option.map_eq_some_iff.1 hy
        have hj := (List.getElem?_eq_some_iff.1 hx).1
        rw [hlen] at hj
        rw [List.getElem?_take, if_pos hj] at hx
        have e1 : zs.getD j 0 = x := by rw [List.getD_eq_getElem?_getD, hx]; rfl
        rw [e1]
        exact .int _ _ (wf_has (hwz x (List.mem_of_getElem? hx))))
    rw [List.length_map, hlen] at this
    exact this

theorem trod_int_val {t : TypeId} {k : IntKind} {n : Nat} {v : Value} {y : DataW H × List MemPlace} (ht : P.underlying t = some (.int k)) (h : DataW.trod enc P W base spare held n t [v] = some y) : ∃ x, v = .int k x ∧ k.has x := by
  cases n with
  | zero => simp [DataW.trod] at h
  | succ n =>
    cases v <;> simp [DataW.trod, ht] at h
    rename_i k' x
    obtain ⟨⟨rfl, hw⟩, _⟩ := h
    exact ⟨x, rfl, wf_has hw⟩

theorem flat_moves (xs : List Move) : ∀ (j : Nat) (y : V), (xs.map encM).flatten[j]? = some y → ∃ m, xs[j / 2]? = some m ∧ y = .int .i64 (if j % 2 = 0 then m.1 else m.2) := fun j y h => by
  induction xs generalizing j with
  | nil => simp at h
  | cons x xs ih =>
    match j with
    | 0 => simp [encM] at h; exact ⟨x, rfl, by simp [h]⟩
    | 1 => simp [encM] at h; exact ⟨x, rfl, by simp [h]⟩
    | j + 2 =>
      have h' : (xs.map encM).flatten[j]? = some y := by simpa [encM] using h
      obtain ⟨m, h1, h2⟩ := ih j h'
      refine ⟨m, ?_, ?_⟩
      · rw [show (j + 2) / 2 = j / 2 + 1 by omega]; simpa using h1
      · rw [show (j + 2) % 2 = j % 2 by omega]; exact h2

/-- Moves that came in. -/
theorem in_moves {t e : TypeId} {f0 f1 : Field} {v : Value} {d : DataW H} {p : List MemPlace} (ht : P.underlying t = some (.slice e)) (he : P.underlying e = some (.struct #[f0, f1]))
    (ce : P.cellsOf e = 2) (o0 : f0.offset = 0) (o1 : f1.offset = 1) (c0 : P.cellsOf f0.type = 1) (c1 : P.cellsOf f1.type = 1) (u0 : P.underlying f0.type = some (.int .i64)) (u1 : P.underlying f1.type = some (.int .i64))
    (hv : Value.okWide P W .any base t v) (h : DataW.Trod enc P W 0 (fun _ => true) held t v d p) : ∃ xs : List Move, Rep (G0 W) W v (.sl Move (0, 0) 2 encM false xs) := by
  obtain ⟨a0, len0, cap0, rfl⟩ := okWide_slice ht hv
  obtain ⟨fuel, hf⟩ := h
  rcases Deep.open_slice_pairs ht he ce o0 o1 c0 c1 hf with ⟨hcs, _⟩ | ⟨a, len, cap, m, n, V0, V1, D0, D1, P0, P1, hcs, _, hl, hm, hmm, _, hcell⟩
  · simp [Value.cells] at hcs
    obtain ⟨rfl, rfl, rfl⟩ := hcs
    exact ⟨[], .sl _ _ _ _ _ _ _ (nils_lit 2 false)⟩
  · simp [Value.cells] at hcs
    obtain ⟨rfl, rfl, rfl⟩ := hcs
    obtain ⟨hb, hs⟩ := ok_addr ht hv
    have hm' : len0 ≤ m := by rw [hmm]; simpa using hl
    have each : ∀ i, i < len0 → ∃ q : Int × Int, V0 i = .int .i64 q.1 ∧ V1 i = .int .i64 q.2 ∧ IntKind.i64.has q.1 ∧ IntKind.i64.has q.2 := fun i hi => by
      obtain ⟨_, _, h0, h1⟩ := hcell i (by omega)
      obtain ⟨x, hx, hx2⟩ := trod_int_val u0 h0
      obtain ⟨y, hy, hy2⟩ := trod_int_val u1 h1
      exact ⟨(x, y), hx, hy, hx2, hy2⟩
    obtain ⟨q, hq⟩ := Deep.choose_lt each
    have hxs : ∀ i (mv : Move), ((List.range len0).map q)[i]? = some mv → i < len0 ∧ mv = q i := fun i mv h => by
      rw [List.getElem?_map] at h
      obtain ⟨k, hk, rfl⟩ := Option.map_eq_some_iff.1 h
      obtain ⟨h1, h2⟩ := List.getElem?_eq_some_iff.1 hk
      simp at h1 h2
      subst h2
      exact ⟨h1, rfl⟩
    refine ⟨(List.range len0).map q, .sl _ _ _ _ _ _ _ ?_⟩
    have := Rep.lit (G := G0 W) (w := W) 2 (((List.range len0).map q).map encM) false (some a) cap0 (fun j => .int .i64 (if j % 2 = 0 then (q (j / 2)).1 else (q (j / 2)).2)) (by simpa using hl) hm (fun h => by cases h) (fun h => by cases h)
      (fun p hp _ => by cases hp; exact ⟨hb, hs⟩) (fun c hc => by obtain ⟨x, _, rfl⟩ := List.mem_map.1 hc; rfl)
      (fun y hy => by
        obtain ⟨j, hj⟩ := List.mem_iff_getElem?.1 hy
        obtain ⟨mv, _, rfl⟩ := flat_moves _ j y hj
        rfl)
      (fun p j y hp hy => by
        cases hp
        obtain ⟨mv, h1, _⟩ := flat_moves _ j y hy
        obtain ⟨h2, rfl⟩ := hxs _ _ h1
        obtain ⟨g0, g1, _, _⟩ := hcell (j / 2) (by omega)
        obtain ⟨e0, e1, _, _⟩ := hq (j / 2) h2
        by_cases hj : j % 2 = 0
        · have ej : j = j / 2 * 2 := by omega
          rw [if_pos hj, ← e0, ← g0, ← ej]
        · have ej : j = j / 2 * 2 + 1 := by omega
          rw [if_neg hj, ← e1, ← g1, ← ej])
      (fun j y hy => by
        obtain ⟨mv, h1, rfl⟩ := flat_moves _ j y hy
        obtain ⟨h2, rfl⟩ := hxs _ _ h1
        obtain ⟨_, _, b0, b1⟩ := hq (j / 2) h2
        refine .int _ _ ?_
        split
        · exact b0
        · exact b1)
    simp only [List.length_map, List.length_range] at this
    exact this

/-- Two numbers that came in. -/
theorem in_two {t e : TypeId} {v : Value} (ht : P.underlying t = some (.array 2 e)) (hc : P.cellsOf t = 2) (hts : P.cellTypes P.depth t = some [e, e]) (he : P.underlying e = some (.int .i64)) (hv : Value.okWide P W .any base t v) :
    ∃ x y : Int, IntKind.i64.has x ∧ IntKind.i64.has y ∧ Rep (G0 W) W v (.agg [.int .i64 x, .int .i64 y]) := by
  simp only [Value.okWide, ht] at hv
  obtain ⟨cs, rfl, hsz, ts, hts', _, hall⟩ := hv
  rw [hts] at hts'
  cases hts'
  rw [hc] at hsz
  have cell : ∀ i, i < 2 → ∃ x, cs[i]? = some (.int .i64 x) ∧ IntKind.i64.has x := fun i hi => by
    have hlt : i < cs.size := by omega
    obtain ⟨u, hu, hok⟩ := hall i cs[i] (by simp [hlt])
    have hue : u = e := by
      match i, hi with
      | 0, _ => simpa using hu.symm
      | 1, _ => simpa using hu.symm
    subst hue
    have hci : cs[i]? = some cs[i] := by simp [hlt]
    generalize cs[i] = c at hok hci
    cases c <;> simp [Cell.okWide, Cell.ok, he] at hok
    obtain ⟨rfl, hh⟩ := hok
    exact ⟨_, hci, hh⟩
  obtain ⟨x, hx, hx2⟩ := cell 0 (by decide)
  obtain ⟨y, hy, hy2⟩ := cell 1 (by decide)
  refine ⟨x, y, hx2, hy2, .agg _ _ (by simpa using hsz) (fun i c z hc hz => ?_)⟩
  match i with
  | 0 => rw [hx] at hc; cases hc; cases hz; exact .int _ _ hx2
  | 1 => rw [hy] at hc; cases hc; cases hz; exact .int _ _ hy2
  | i + 2 => simp at hz
end
end Go.Ab
