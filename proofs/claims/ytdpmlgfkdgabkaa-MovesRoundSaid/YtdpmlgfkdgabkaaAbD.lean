/- Contracts of the program's functions over an abstract state, and what they rest on: part AbD. No condition. -/
import Derived.Test.YtdpmlgfkdgabkaaAbC
import Derived.Test.YtdpmlgfkdgabkaaProg
import Derived.KernelRfl
set_option linter.unusedVariables false
set_option linter.unusedSimpArgs false

/- The types of the program; kinds of elements and of maps. -/
namespace Go.Ab
open Go.Proofs

/-! ### Kinds of elements -/
def encI (x : Int) : List V := [.int .i64 x]
def decI : List V → Int
  | .int _ n :: _ => n
  | _ => 0
def elI : El := { α := Int, d := 0, n := 1, enc := encI, dec := decI }

def encJ (x : Int) : List V := [.int .i32 x]
def elJ : El := { α := Int, d := 0, n := 1, enc := encJ, dec := decI }

def vInts (xs : List Int) : V := .sl Int 0 1 encI false xs

def encL (xs : List Int) : List V := [vInts xs]

abbrev Move := Int × Int
def encM (m : Move) : List V := [.int .i64 m.1, .int .i64 m.2]
def decM : List V → Move
  | [.int _ a, .int _ b] => (a, b)
  | _ => (0, 0)
def elM : El := { α := Move, d := (0, 0), n := 2, enc := encM, dec := decM }

/-- A machine instruction. -/
structure Mac where
  op : Int
  d : Int
  e : Int
  a : Int
  b : Int
  c : Int
  imm : Int
  deriving DecidableEq

def encK (m : Mac) : List V := [.int .i64 m.op, .int .i64 m.d, .int .i64 m.e, .int .i64 m.a, .int .i64 m.b, .int .i64 m.c, .int .i32 m.imm, vInts []]
def decK : List V → Mac
  | [.int _ op, .int _ d, .int _ e, .int _ a, .int _ b, .int _ c, .int _ imm, _] => ⟨op, d, e, a, b, c, imm⟩
  | _ => ⟨0, 0, 0, 0, 0, 0, 0⟩
def elK : El := { α := Mac, d := ⟨0, 0, 0, 0, 0, 0, 0⟩, n := 8, enc := encK, dec := decK }

def elL : El := { α := List Int, d := [], n := 1, enc := encL, dec := fun _ => [] }

def kdI : V → Int
  | .int _ n => n
  | _ => 0
def mII : Mp := { κ := Int, eq := inferInstance, kenc := fun x => .int .i64 x, kdec := kdI, β := Int, d := 0, venc := fun x => .int .i64 x, vdec := kdI }
def bdI : V → Bool
  | .bool b => b
  | _ => false
def mIB : Mp := { κ := Int, eq := inferInstance, kenc := fun x => .int .i64 x, kdec := kdI, β := Bool, d := false, venc := fun b => .bool b, vdec := bdI }

theorem elI_ok : ElOk elI := ⟨fun _ => rfl, fun x y hy => by simp [elI, encI] at hy; subst hy; rfl, by decide, by decide⟩
theorem elJ_ok : ElOk elJ := ⟨fun _ => rfl, fun x y hy => by simp [elJ, encJ] at hy; subst hy; rfl, by decide, by decide⟩
theorem elL_ok : ElOk elL := ⟨fun _ => rfl, fun x y hy => by simp [elL, encL] at hy; subst hy; rfl, by decide, by decide⟩
theorem elM_ok : ElOk elM := ⟨fun _ => rfl, fun x y hy => by simp [elM, encM] at hy; rcases hy with rfl | rfl <;> rfl, by decide, by decide⟩
theorem elK_ok : ElOk elK := ⟨fun _ => rfl, fun x y hy => by simp [elK, encK] at hy; rcases hy with rfl | rfl | rfl | rfl | rfl | rfl | rfl | rfl <;> rfl, by decide, by decide⟩

/-! ### The table -/
def tyI : TI := { size := 1, zero := [.int .i64 0], kind := some .i64 }
def tyJ : TI := { size := 1, zero := [.int .i32 0], kind := some .i32 }
def tyB : TI := { size := 1, zero := [.bool false], c := .bool }
def tySl (el : El) (e : Nat) : TI := { size := 1, zero := [.nils], el := some el, eid := e, c := .slice }
def tyM0 : TI := { agg := true, size := 2, zero := [.int .i64 0, .int .i64 0], fs := [(0, 1, false), (1, 1, false)] }
def tyM : TI := { tyM0 with eq2 := true }
def tyK : TI := { agg := true, size := 8, zero := encK ⟨0, 0, 0, 0, 0, 0, 0⟩, fs := [(0, 1, false), (1, 1, false), (2, 1, false), (3, 1, false), (4, 1, false), (5, 1, false), (6, 1, false), (7, 1, false)] }
def tyA2 : TI := { agg := true, size := 2, zero := [.int .i64 0, .int .i64 0], arr := some (2, 1, false) }
def tyG : TI := { agg := true, size := 2, zero := [.sl Mac elK.d 8 encK false [], .int .i64 0], fs := [(0, 1, false), (1, 1, false)] }
def tyP : TI := { size := 1, zero := [.nilp], c := .ptr }
def tyF : TI := { size := 1, zero := [.nilf], c := .fn }
def tyLay : TI := { agg := true, size := 4, zero := [.nils, .int .i64 0, .int .i64 0, .bool false], fs := [(0, 1, false), (1, 1, false), (2, 1, false), (3, 1, false)] }
def tyLayR : TI := { agg := true, size := 4, zero := [.nils, .int .i64 0, .int .i64 0, .int .i64 0], fs := [(0, 1, false), (1, 1, false), (2, 1, false), (3, 1, false)] }
def tyMap (m : Mp) : TI := { size := 1, zero := [.nilm], mp := some m }

def tabL : List (Nat × TI) :=
  [(3, tyI), (4, tyB), (21, tyJ), (22, tySl elM 31), (23, tySl elI 3), (24, tyA2), (25, tyF), (31, tyM), (32, tySl elL 23), (34, tySl elK 39), (35, tyI), (39, tyK), (44, tySl elJ 21),
   (47, tyMap mIB), (56, tyG), (60, tyP), (62, tyLay), (63, tyMap mII), (66, tyF), (67, tyF), (72, tyF), (75, tySl elJ 21), (82, tyP), (84, tyLayR)]

def tabM : Tab := fun t => lookTI t tabL

theorem info_of {t : Nat} {i : TypeInfo} (h : Try.types[t]? = some i) : Try.prog.types[t]? = some i := h

theorem lookTI_cases (Q : TI → Prop) (t : Nat) : ∀ (l : List (Nat × TI)), Q { size := 0 } → (∀ p ∈ l, t = p.1 → Q p.2) → Q (lookTI t l)
  | [], h0, _ => h0
  | (u, i) :: rest, h0, h => by
    simp only [lookTI]
    cases hb : Nat.beq t u with
    | true => exact h (u, i) (by simp) (Nat.eq_of_beq_eq_true hb)
    | false => exact lookTI_cases Q t rest h0 (fun p hp => h p (by simp [hp]))

theorem ti_none {P : Program} (t : Nat) : TIok P t { size := 0 } :=
  ⟨fun h => absurd h (by decide), fun h => absurd rfl h, fun h => absurd rfl h, fun _ h => (by cases h), fun _ _ _ h => (by cases h), fun _ h => (by cases h), fun _ h => (by cases h), fun h => (by cases h), fun h => (by cases h), fun h => (by cases h), fun h => (by cases h), fun h => (by cases h)⟩

theorem ti_simple {P : Program} {t : Nat} {i : TypeInfo} {d : TypeDesc} {z : Value} {x : V} {kd : Option IntKind} {c : Cat} (hi : P.info? t = some i) (hd : P.underlying t = some d) (hs : i.size = 1) (ha : isAggD d = false) (hz : i.zero = some z) (hzl : zeroL z.cells.toList [x])
    (hk : ∀ k, kd = some k → d = .int k) (hb : c = .bool → d = .bool) (hsl : c = .slice → False) (hp : c = .ptr → ∃ e, d = .pointer e) (hf : c = .fn → ∃ p r q, d = .func p r q) : TIok P t { size := 1, zero := [x], kind := kd, c } :=
  ⟨fun _ => ⟨i, d, hi, hs, hd, ha⟩, fun _ => ⟨i, z, hi, hz, hzl⟩, fun h => absurd rfl h, fun _ h => (by cases h), fun _ _ _ h => (by cases h), fun _ h => (by cases h), fun k h => (by rw [hd, hk k h]), fun h => (by rw [hd, hb h]), fun h => (hsl h).elim,
   fun h => (by obtain ⟨e, he⟩ := hp h; exact ⟨e, by rw [hd, he]⟩), fun h => (by obtain ⟨p, r, q, he⟩ := hf h; exact ⟨p, r, q, by rw [hd, he]⟩), fun h => (by cases h)⟩

theorem ti_slice {P : Program} {t e : Nat} {el : El} {i j : TypeInfo} {z zz : Value} (hel : ElOk el) (hi : P.info? t = some i) (hd : P.underlying t = some (.slice e)) (hs : i.size = 1) (hz : i.zero = some z) (hzl : zeroL z.cells.toList [.nils])
    (hj : P.info? e = some j) (hjs : j.size = el.n) (hjb : j.bytes ≤ 1048576) (hjz : j.zero = some zz) (hzs : zz.cells.size = el.n) (hzz : zeroL zz.cells.toList (el.enc el.d)) : TIok P t (tySl el e) :=
  ⟨fun _ => ⟨i, _, hi, hs, hd, rfl⟩, fun _ => ⟨i, z, hi, hz, hzl⟩, fun h => absurd rfl h, fun el' h => (by cases h; exact ⟨hel, j, zz, hd, hj, hjs, hjb, hjz, hzs, hzz⟩), fun _ _ _ h => (by cases h), fun _ h => (by cases h), fun k h => (by cases h), fun h => (by cases h),
   fun _ => ⟨e, hd⟩, fun h => (by cases h), fun h => (by cases h), fun h => (by cases h)⟩

theorem ti_struct {P : Program} {t : Nat} {i : TypeInfo} {fields : Array Field} {z : Value} {n : Nat} {xs : List V} {fs : List (Nat × Nat × Bool)} (hi : P.info? t = some i) (hd : P.underlying t = some (.struct fields)) (hs : i.size = n) (hz : i.zero = some z) (hzl : zeroL z.cells.toList xs)
    (hf : fields.toList.mapM (fun f => (P.info? f.type).bind fun i => (P.underlying f.type).map fun d => (f.offset, i.size, isAggD d)) = some fs) (hq : ∀ q ∈ fs, 0 < q.2.1 ∧ (q.2.2 = false → q.2.1 = 1)) : TIok P t { agg := true, size := n, zero := xs, fs } :=
  ⟨fun _ => ⟨i, _, hi, hs, hd, rfl⟩, fun _ => ⟨i, z, hi, hz, hzl⟩, fun _ => ⟨fields, hd, hf, hq⟩, fun _ h => (by cases h), fun _ _ _ h => (by cases h), fun _ h => (by cases h), fun k h => (by cases h), fun h => (by cases h), fun h => (by cases h), fun h => (by cases h), fun h => (by cases h), fun h => (by cases h)⟩

theorem ti_map {P : Program} {t key elem : Nat} {m : Mp} {i : TypeInfo} {z : Value} (hm : MpOk P key elem m) (hi : P.info? t = some i) (hd : P.underlying t = some (.map key elem)) (hs : i.size = 1) (hz : i.zero = some z) (hzl : zeroL z.cells.toList [.nilm]) : TIok P t (tyMap m) :=
  ⟨fun _ => ⟨i, _, hi, hs, hd, rfl⟩, fun _ => ⟨i, z, hi, hz, hzl⟩, fun h => absurd rfl h, fun _ h => (by cases h), fun _ _ _ h => (by cases h), fun m' h => (by cases h; exact ⟨key, elem, hd, hm⟩), fun k h => (by cases h), fun h => (by cases h), fun h => (by cases h), fun h => (by cases h), fun h => (by cases h), fun h => (by cases h)⟩

theorem mII_ok : MpOk Try.prog 3 3 mII := by
  refine ⟨⟨fun _ => rfl, fun _ => rfl⟩, ⟨.i64, fun x => x, by kernel_rfl, fun _ => rfl, fun _ _ h => h, fun k n h => ?_⟩, Try.t3, .int .i64 0, by kernel_rfl, rfl, fun G w => .int _ _ (zero_has _)⟩
  simp [mII, kdI] at h
  exact ⟨h.symm, rfl⟩

theorem mIB_ok : MpOk Try.prog 3 4 mIB := by
  refine ⟨⟨fun _ => rfl, fun _ => rfl⟩, ⟨.i64, fun x => x, by kernel_rfl, fun _ => rfl, fun _ _ h => h, fun k n h => ?_⟩, Try.t4, .bool false, by kernel_rfl, rfl, fun G w => .bool _⟩
  simp [mIB, kdI] at h
  exact ⟨h.symm, rfl⟩

theorem fs_ok {fs : List (Nat × Nat × Bool)} (h : fs.all (fun q => decide (0 < q.2.1) && (q.2.2 || q.2.1 == 1)) = true) : ∀ q ∈ fs, 0 < q.2.1 ∧ (q.2.2 = false → q.2.1 = 1) := fun q hq => by
  have := List.all_eq_true.1 h q hq
  simp at this
  refine ⟨this.1, fun h => ?_⟩
  rcases this.2 with h' | h'
  · rw [h'] at h; cases h
  · exact h'

def fieldsOf : TypeDesc → Array Field
  | .struct f => f
  | _ => #[]

theorem ti_arr {P : Program} {t e len n : Nat} {i j : TypeInfo} {d : TypeDesc} {z : Value} {xs : List V} (hi : P.info? t = some i) (hd : P.underlying t = some (.array len e)) (hs : i.size = n) (hz : i.zero = some z) (hzl : zeroL z.cells.toList xs) (hj : P.info? e = some j) (hjs : j.size = 1) (hjd : P.underlying e = some d) (hja : isAggD d = false) :
    TIok P t { agg := true, size := n, zero := xs, arr := some (len, 1, false) } :=
  ⟨fun _ => ⟨i, _, hi, hs, hd, rfl⟩, fun _ => ⟨i, z, hi, hz, hzl⟩, fun h => absurd rfl h, fun _ h => (by cases h), fun _ _ _ h => (by cases h; exact ⟨e, j, d, hd, hj, hjs, by decide, hjd, hja, fun _ => rfl⟩), fun _ h => (by cases h), fun k h => (by cases h), fun h => (by cases h), fun h => (by cases h), fun h => (by cases h), fun h => (by cases h), fun h => (by cases h)⟩

theorem eq31 (w : World) (a b c d : Int) : (Op.equalIn 10000 31 (.agg #[.int .i64 a, .int .i64 b]) (.agg #[.int .i64 c, .int .i64 d])).run Try.prog w = .ok (a == c && b == d) w := by
  rw [run_equalIn_agg w 9999 31 _ _ (by kernel_rfl) (by kernel_rfl)]
  have hf : (Try.prog.fieldsOf 31).toList = [(fieldsOf Try.t30.desc).getD 0 default, (fieldsOf Try.t30.desc).getD 1 default] := by kernel_rfl
  have h0 : ((fieldsOf Try.t30.desc).getD 0 default).name ≠ "_" := by decide
  have h1 : ((fieldsOf Try.t30.desc).getD 1 default).name ≠ "_" := by decide
  have u3 : Try.prog.underlying 3 = some (.int .i64) := by kernel_rfl
  have p0 : ∀ (x y : Int), (Go.part 3 #[.int .i64 x, .int .i64 y] 0).run Try.prog w = .ok (.int .i64 x) w := fun x y => run_part (i := Try.t3) (by kernel_rfl) u3 _ 0 (by decide) (by simp; decide) (fun _ => rfl)
  have p1 : ∀ (x y : Int), (Go.part 3 #[.int .i64 x, .int .i64 y] 1).run Try.prog w = .ok (.int .i64 y) w := fun x y => run_part (i := Try.t3) (by kernel_rfl) u3 _ 1 (by decide) (by simp; decide) (fun _ => rfl)
  have q : ∀ x y : Int, (Op.equalIn 9999 3 (.int .i64 x) (.int .i64 y)).run Try.prog w = .ok (x == y) w := fun x y => run_equalIn_int w 9998 3 .i64 .i64 x y u3
  rw [hf]
  simp only [Op.eqFields]
  rw [if_pos h0, if_pos h1]
  show (Sem.run Try.prog (do
      let x ← Go.part 3 #[.int .i64 a, .int .i64 b] 0
      let y ← Go.part 3 #[.int .i64 c, .int .i64 d] 0
      let r ← Op.equalIn 9999 3 x y
      if (!r) = true then pure false else do
        let x ← Go.part 3 #[.int .i64 a, .int .i64 b] 1
        let y ← Go.part 3 #[.int .i64 c, .int .i64 d] 1
        let r ← Op.equalIn 9999 3 x y
        if (!r) = true then pure false else pure true) w) = _
  simp only [Sem.run_bind, p0, p1, q, Result.andThen_ok, Sem.run_ite]
  cases (a == c) <;> cases (b == d) <;> simp

theorem tabM_ok : ∀ t, TIok Try.prog t (tabM t) := fun t => by
  refine lookTI_cases (TIok Try.prog t) t tabL (ti_none t) (fun p hp e => ?_)
  subst e
  simp only [tabL, List.mem_cons, List.not_mem_nil, or_false] at hp
  have sl0 : ∀ (α : Type) (d : α) (n : Nat) (enc : α → List V), zeroL (Value.slice none 0 0).cells.toList [.sl α d n enc false []] := fun _ _ _ _ => ⟨⟨rfl, rfl, rfl, rfl⟩, trivial⟩
  have i0 : ∀ k, zeroV (.int k 0) (.int k 0) := fun _ => ⟨rfl, rfl, rfl⟩
  rcases hp with rfl | rfl | rfl | rfl | rfl | rfl | rfl | rfl | rfl | rfl | rfl | rfl | rfl | rfl | rfl | rfl | rfl | rfl | rfl | rfl | rfl | rfl | rfl | rfl
  · exact ti_simple (i := Try.t3) (d := .int .i64) (by kernel_rfl) (by kernel_rfl) rfl rfl rfl ⟨i0 _, trivial⟩ (fun k h => by cases h; rfl) (fun h => by cases h) (fun h => by cases h) (fun h => by cases h) (fun h => by cases h)
  · exact ti_simple (i := Try.t4) (d := .bool) (by kernel_rfl) (by kernel_rfl) rfl rfl rfl ⟨⟨rfl, rfl⟩, trivial⟩ (fun k h => by cases h) (fun h => rfl) (fun h => by cases h) (fun h => by cases h) (fun h => by cases h)
  · exact ti_simple (i := Try.t21) (d := .int .i32) (by kernel_rfl) (by kernel_rfl) rfl rfl rfl ⟨i0 _, trivial⟩ (fun k h => by cases h; rfl) (fun h => by cases h) (fun h => by cases h) (fun h => by cases h) (fun h => by cases h)
  · exact ti_slice (i := Try.t22) (j := Try.t31) elM_ok (by kernel_rfl) (by kernel_rfl) rfl rfl ⟨⟨rfl, rfl, rfl⟩, trivial⟩ (by kernel_rfl) rfl (by decide) rfl rfl ⟨i0 _, i0 _, trivial⟩
  · exact ti_slice (i := Try.t23) (j := Try.t3) elI_ok (by kernel_rfl) (by kernel_rfl) rfl rfl ⟨⟨rfl, rfl, rfl⟩, trivial⟩ (by kernel_rfl) rfl (by decide) rfl rfl ⟨i0 _, trivial⟩
  · exact ti_arr (e := 3) (i := Try.t24) (j := Try.t3) (d := .int .i64) (by kernel_rfl) (by kernel_rfl) rfl rfl ⟨i0 _, i0 _, trivial⟩ (by kernel_rfl) rfl (by kernel_rfl) rfl
  · exact ti_simple (i := Try.t25) (d := .func #[] #[4] false) (by kernel_rfl) (by kernel_rfl) rfl rfl rfl ⟨trivial, trivial⟩ (fun k h => by cases h) (fun h => by cases h) (fun h => by cases h) (fun h => by cases h) (fun h => ⟨_, _, _, rfl⟩)
  · have h31 : TIok Try.prog 31 tyM0 := ti_struct (i := Try.t31) (fields := fieldsOf Try.t30.desc) (by kernel_rfl) (by kernel_rfl) rfl rfl ⟨i0 _, i0 _, trivial⟩ (by kernel_rfl) (fs_ok rfl)
    exact ⟨h31.size, h31.zero, h31.st, h31.el, h31.arr, h31.mp, h31.kind, h31.cb, h31.cs, h31.cp, h31.cf, fun _ => ⟨by kernel_rfl, eq31⟩⟩
  · exact ti_slice (i := Try.t32) (j := Try.t23) elL_ok (by kernel_rfl) (by kernel_rfl) rfl rfl ⟨⟨rfl, rfl, rfl⟩, trivial⟩ (by kernel_rfl) rfl (by decide) rfl rfl (sl0 _ _ _ _)
  · exact ti_slice (i := Try.t34) (j := Try.t39) elK_ok (by kernel_rfl) (by kernel_rfl) rfl rfl ⟨⟨rfl, rfl, rfl⟩, trivial⟩ (by kernel_rfl) rfl (by decide) rfl rfl ⟨i0 _, i0 _, i0 _, i0 _, i0 _, i0 _, i0 _, ⟨rfl, rfl, rfl, rfl⟩, trivial⟩
  · exact ti_simple (i := Try.t35) (d := .int .i64) (by kernel_rfl) (by kernel_rfl) rfl rfl rfl ⟨i0 _, trivial⟩ (fun k h => by cases h; rfl) (fun h => by cases h) (fun h => by cases h) (fun h => by cases h) (fun h => by cases h)
  · exact ti_struct (i := Try.t39) (fields := fieldsOf Try.t38.desc) (by kernel_rfl) (by kernel_rfl) rfl rfl ⟨i0 _, i0 _, i0 _, i0 _, i0 _, i0 _, i0 _, ⟨rfl, rfl, rfl, rfl⟩, trivial⟩ (by kernel_rfl) (fs_ok rfl)
  · exact ti_slice (i := Try.t44) (j := Try.t21) elJ_ok (by kernel_rfl) (by kernel_rfl) rfl rfl ⟨⟨rfl, rfl, rfl⟩, trivial⟩ (by kernel_rfl) rfl (by decide) rfl rfl ⟨i0 _, trivial⟩
  · exact ti_map (i := Try.t47) mIB_ok (by kernel_rfl) (by kernel_rfl) rfl rfl ⟨rfl, trivial⟩
  · exact ti_struct (i := Try.t56) (fields := fieldsOf Try.t55.desc) (by kernel_rfl) (by kernel_rfl) rfl rfl ⟨⟨rfl, rfl, rfl, rfl⟩, i0 _, trivial⟩ (by kernel_rfl) (fs_ok rfl)
  · exact ti_simple (i := Try.t60) (d := .pointer 62) (by kernel_rfl) (by kernel_rfl) rfl rfl rfl ⟨rfl, trivial⟩ (fun k h => by cases h) (fun h => by cases h) (fun h => by cases h) (fun h => ⟨_, rfl⟩) (fun h => by cases h)
  · exact ti_struct (i := Try.t62) (fields := fieldsOf Try.t61.desc) (by kernel_rfl) (by kernel_rfl) rfl rfl ⟨⟨rfl, rfl, rfl⟩, i0 _, i0 _, ⟨rfl, rfl⟩, trivial⟩ (by kernel_rfl) (fs_ok rfl)
  · exact ti_map (i := Try.t63) mII_ok (by kernel_rfl) (by kernel_rfl) rfl rfl ⟨rfl, trivial⟩
  · exact ti_simple (i := Try.t66) (d := .func #[3] #[4] false) (by kernel_rfl) (by kernel_rfl) rfl rfl rfl ⟨trivial, trivial⟩ (fun k h => by cases h) (fun h => by cases h) (fun h => by cases h) (fun h => by cases h) (fun h => ⟨_, _, _, rfl⟩)
  · exact ti_simple (i := Try.t67) (d := .func #[3] #[] false) (by kernel_rfl) (by kernel_rfl) rfl rfl rfl ⟨trivial, trivial⟩ (fun k h => by cases h) (fun h => by cases h) (fun h => by cases h) (fun h => by cases h) (fun h => ⟨_, _, _, rfl⟩)
  · exact ti_simple (i := Try.t72) (d := Try.t71.desc) (by kernel_rfl) (by kernel_rfl) rfl rfl rfl ⟨trivial, trivial⟩ (fun k h => by cases h) (fun h => by cases h) (fun h => by cases h) (fun h => by cases h) (fun h => ⟨_, _, _, rfl⟩)
  · exact ti_slice (i := Try.t75) (j := Try.t21) elJ_ok (by kernel_rfl) (by kernel_rfl) rfl rfl ⟨⟨rfl, rfl, rfl⟩, trivial⟩ (by kernel_rfl) rfl (by decide) rfl rfl ⟨i0 _, trivial⟩
  · exact ti_simple (i := Try.t82) (d := .pointer 84) (by kernel_rfl) (by kernel_rfl) rfl rfl rfl ⟨rfl, trivial⟩ (fun k h => by cases h) (fun h => by cases h) (fun h => by cases h) (fun h => ⟨_, rfl⟩) (fun h => by cases h)
  · exact ti_struct (i := Try.t84) (fields := fieldsOf Try.t83.desc) (by kernel_rfl) (by kernel_rfl) rfl rfl ⟨⟨rfl, rfl, rfl⟩, i0 _, i0 _, i0 _, trivial⟩ (by kernel_rfl) (fs_ok rfl)
end Go.Ab

/- How contracts are proved: the common steps. -/
namespace Go.Ab
open Go.Proofs

/-- A body, with what it comes to as an open word. -/
theorem CT_of_W {P : Program} {tab : Tab} {D : List Nat} {tr : Nat → DT} {H : Heap} {f : Nat} {fn : Func} {c : Code} {args : List V} {p : Ar} {K : Out → Heap → Prop} {cx : Cx} (hf : P.funcs[f]? = some fn) (hname : (fn.name == "runtime.NumGoroutine") = false) (hb : fn.body = some c)
    (hT : ∀ t, TIok P t (tab t)) (hyl : cx.Ok ⟨H.length, p⟩) (hok : okCode tr c = true)
    (h : ∀ (z : Sz) (S : Sy) (R : List V → Heap → Prop), z = realz → S = reals P cx none ⟨H.length, p⟩ → (∀ rs H1 rs' H', Wk ⟨H.length, p⟩ rs H1 rs' H' → K (.ret (res1 rs')) H' → R rs H1) →
      W z S tab D tr c (retQ S tab fn.results.toList R) (args ++ List.replicate (fn.ntmps - args.length) .und) H) : CT P cx p f args H K := by
  refine CT_of_T (tab := tab) (rnd := none) hf hname hb hT hyl (W_sound (D := D) (tr := tr) hT hyl c _ _ _ hok (Nat.le_refl _) ?_)
  exact h realz _ (fun rs H1 => ∃ rs' H', Wk ⟨H.length, p⟩ rs H1 rs' H' ∧ K (.ret (res1 rs')) H') rfl rfl (fun rs H1 rs' H' hw hk => ⟨rs', H', hw, hk⟩)

def noTr : Nat → DT := fun _ => .stop

def lookE (i : Nat) : List (Nat × V) → V
  | [] => .und
  | (j, v) :: r => bif Nat.beq i j then v else lookE i r

def mkA (l : List (Nat × V)) : Nat → Nat → Env
  | _, 0 => []
  | i, n + 1 => lookE i l :: mkA l (i + 1) n

/-- n slots, of which few are known. -/
def mkE (n : Nat) (l : List (Nat × V)) : Env := mkA l 0 n

theorem tri_loop {P : Program} {n0 : Lim} {cx : Cx} {rnd : Option Nat} {S : Sy} {c : Code} {Q : Post} {env env0 : Env} {H H0 : Heap} (hS : S = reals P cx rnd n0) (hyl : cx.Ok n0) (hn : n0.n ≤ H.length) (I : Nat → Env → Heap → Prop) (m : Nat) (hw : Wk n0 env H env0 H0) (hn0 : n0.n ≤ H0.length) (h0 : I m env0 H0)
    (h : ∀ m env H, I m env H → n0.n ≤ H.length → T P cx rnd n0 c (fun x env' H' => match x with
      | .norm => ∃ m' env'' H'', m' < m ∧ Wk n0 env' H' env'' H'' ∧ I m' env'' H''
      | x => Q x env' H') env H) : S .tri (.loop c) Q env H := by
  subst hS
  exact T.wk hw hn hyl (T.loop hyl I hn0 m h0 h)

theorem use_ct {P : Program} {n0 : Lim} {cx : Cx} {rnd : Option Nat} {S : Sy} {f : Nat} {args : List V} {H : Heap} {K : Out → Ar → Heap → Prop} {K0 : Out → Heap → Prop} (σ : List Nat) {p0 : Ar} (hS : S = reals P cx rnd n0) (hyl : cx.Ok n0) (hok : okFrame σ args H = true)
    (hct : ∀ yl, CT P (Cx.plain yl) p0 f (renL (ixo σ) args) (smallH σ H σ) K0) (hm : n0.may (pullA σ p0)) (hK : ∀ o h', K0 o h' → K (renO (outo σ H.length) o) (pullA σ p0) (merge σ (pullA σ p0) H h')) : S .call f args H K := by
  subst hS
  exact ⟨pullA σ p0, hm, CT.frame hyl.yl hok hct hK⟩

theorem may_none {n0 : Lim} (σ : List Nat) : n0.may (pullA σ noAr) := fun k _ h => by
  simp only [pullA] at h
  cases hm : memo σ k <;> rw [hm] at h <;> cases h

theorem wrap_small {n : Int} (h0 : -9223372036854775808 ≤ n) (h1 : n ≤ 9223372036854775807) : IntKind.wrap .i64 n = n := by
  simp only [IntKind.wrap, IntKind.signed, IntKind.bits]
  simp
  split <;> omega

theorem rz_add {a b : Int} (h0 : -9223372036854775808 ≤ a + b) (h1 : a + b ≤ 9223372036854775807) : realz .ar .add .i64 a b = a + b := wrap_small h0 h1
theorem rz_sub {a b : Int} (h0 : -9223372036854775808 ≤ a - b) (h1 : a - b ≤ 9223372036854775807) : realz .ar .sub .i64 a b = a - b := wrap_small h0 h1

theorem rz_inc (i : Nat) (h : i ≤ 1000000000) : realz .ar .add .i64 (Int.ofNat i) 1 = Int.ofNat (i + 1) := by
  rw [rz_add (by simp only [Int.ofNat_eq_natCast]; omega) (by simp only [Int.ofNat_eq_natCast]; omega)]; rfl

theorem rz_wr {n : Int} (h0 : -2147483648 ≤ n) (h1 : n ≤ 2147483647) : realz .wr .i32 n = n := by
  show IntKind.wrap .i32 n = n
  simp only [IntKind.wrap, IntKind.signed, IntKind.bits]
  simp
  split <;> omega

def vM (fl : Bool) (l : List Move) : V := .sl Move (0, 0) 2 encM fl l
def vK (fl : Bool) (l : List Mac) : V := .sl Mac ⟨0, 0, 0, 0, 0, 0, 0⟩ 8 encK fl l
end Go.Ab

/- The reference: small functions. -/
namespace Go.Ab
open Go.Proofs

theorem filter_step {l : List Move} {i : Nat} (h : i < l.length) (f : Move → Bool) : (l.take (i + 1)).filter f = (l.take i).filter f ++ (if f (l.getD i (0, 0)) then [l.getD i (0, 0)] else []) := by
  rw [List.take_add_one, List.filter_append]
  congr 1
  rw [List.getElem?_eq_getElem h, List.getD_eq_getElem?_getD, List.getElem?_eq_getElem h]
  simp only [Option.toList_some, Option.getD_some, List.filter_cons, List.filter_nil]

theorem without_ct (yl : Nat) (fl : Bool) (l : List Move) (p : Int) (hl : l.length ≤ 1000) : CT Try.prog (Cx.plain yl) noAr 53 [vM fl l, .int .i64 p] [] (fun o H => o = .ret (vM false (l.filter fun m => m.1 != p)) ∧ H = []) := by
  refine CT_of_W (tab := tabM) (D := [26]) (tr := noTr) Try.func53 (by kernel_rfl) rfl tabM_ok (Cx.plain_ok _ _) (by kernel_rfl) (fun z S R hz hS hR => ?_)
  cbv
  refine tri_loop hS (Cx.plain_ok _ _) (Nat.le_refl _) (fun m env H => ∃ (i : Nat) (n : Nat) (ys : List Move), i ≤ l.length ∧ m = l.length - i ∧ ys = ((l.take i).filter fun m => m.1 != p) ∧ n = ys.length ∧
      env = mkE 28 [(0, vM fl l), (1, .int .i64 p), (5, .ref 0 2 0 n), (6, .int .i64 i)] ∧ H = [.arr 31 elM ys]) l.length
    (.trans (.keep [0, 1, 5, 6]) (.own 5 31 elM_ok rfl)) (Nat.zero_le _) ⟨0, 0, [], Nat.zero_le _, rfl, rfl, rfl, rfl, rfl⟩ ?_
  rintro m env H ⟨i, n, ys, hi, rfl, hys, hn, rfl, rfl⟩ hh
  have hny : n ≤ l.length := by
    rw [hn, hys]
    exact Nat.le_trans (List.length_filter_le _ _) (by rw [List.length_take]; omega)
  refine T_of_W (tab := tabM) (D := [26]) (tr := noTr) tabM_ok (Cx.plain_ok _ _) (by kernel_rfl) hh (fun z' S' Q' hz' hS' hQ => ?_)
  cbv
  rcases h1 : z' .lt (Int.ofNat i) (S' .len (Int × Int) l) with _ | _
  · cbv
    apply hQ
    cbv
    rw [hz', hS'] at h1
    simp [realz, reals] at h1
    have e : l.take i = l := List.take_of_length_le h1
    refine hR _ _ _ _ (.trans (.freeze 0 rfl) (.drop 0 rfl (Nat.zero_le _))) ⟨?_, rfl⟩
    show Out.ret (vM false (ys.take n)) = _
    rw [hn, List.take_length, hys, e]
  · have hlt : i < l.length := by
      rw [hz', hS'] at h1
      simp [realz, reals] at h1
      omega
    have hst := filter_step hlt (fun m => m.1 != p)
    cbv
    refine ⟨by rw [hS']; simp [reals]; omega, ?_⟩
    rcases h2 : z' .ne (S' .at_ (Int × Int) (0, 0) l (z' .nat (Int.ofNat i))).1 p with _ | _
    · cbv
      apply hQ
      subst hz' hS'
      have h3 : ((l.getD i (0, 0)).1 != p) = false := h2
      refine ⟨_, _, _, ?_, .keep [0, 1, 5, 6], i + 1, n, ys, hlt, rfl, ?_, hn, ?_, rfl⟩
      · omega
      · rw [hst, h3, hys]; simp
      · rw [rz_inc i (by omega)]; rfl
    · cbv
      refine ⟨by rw [hS']; simp [reals]; omega, by rw [hz']; simp [realz]; omega, by rw [hS']; exact fun k hk => absurd hk (Nat.not_lt_zero _), ?_⟩
      apply hQ
      subst hz' hS'
      have h3 : ((l.getD i (0, 0)).1 != p) = true := h2
      refine ⟨_, _, _, ?_, .keep [0, 1, 5, 6], i + 1, n + 1, ys ++ [l.getD i (0, 0)], hlt, rfl, ?_, by simp [hn], ?_, ?_⟩
      · omega
      · rw [hst, h3, hys]; simp
      · rw [rz_inc i (by omega)]; rfl
      · show [Blk.arr 31 elM ((ys.take n).drop 0 ++ [l.getD i (0, 0)])] = _
        rw [hn, List.take_length]; rfl
end Go.Ab

/- The reference: which is free. -/
namespace Go.Ab
open Go.Proofs

def freeStep (l : List Move) (best : Int) (m : Move) : Int := if !(l.any fun k => k.2 == m.1) && (decide (best < 0) || decide (m.1 < best)) then m.1 else best
def freeR (l : List Move) : Int := l.foldl (freeStep l) (-1)

def tr50 : Nat → DT := fun _ => (.take 0 (.take 1 (.take 2 (.take 3 (.take 4 (.take 5 (.take 7 (.take 8 (.take 9 (.take 10 (.alt 6 (.alt 11 (.take 12 (.take 13 (.take 14 .done))) .stop) (.alt 11 (.alt 6 (.take 12 (.take 13 (.take 14 .done))) .stop) .stop))))))))))))

theorem fold_take {α β : Type} (f : β → α → β) (b : β) (l : List α) (d : α) {i : Nat} (h : i < l.length) : (l.take (i + 1)).foldl f b = f ((l.take i).foldl f b) (l.getD i d) := by
  rw [List.take_add_one, List.foldl_append, List.getElem?_eq_getElem h, List.getD_eq_getElem?_getD, List.getElem?_eq_getElem h]
  rfl

theorem any_take {α : Type} (f : α → Bool) (l : List α) (d : α) {i : Nat} (h : i < l.length) : (l.take (i + 1)).any f = ((l.take i).any f || f (l.getD i d)) := by
  rw [List.take_add_one, List.any_append, List.getElem?_eq_getElem h, List.getD_eq_getElem?_getD, List.getElem?_eq_getElem h]
  simp

theorem free_ct (yl : Nat) (fl : Bool) (l : List Move) (hl : l.length ≤ 1000) : CT Try.prog (Cx.plain yl) noAr 50 [vM fl l] [] (fun o H => o = .ret (.int .i64 (freeR l)) ∧ H = []) := by
  refine CT_of_W (tab := tabM) (D := []) (tr := tr50) Try.func50 (by kernel_rfl) rfl tabM_ok (Cx.plain_ok _ _) (by kernel_rfl) (fun z S R hz hS hR => ?_)
  cbv
  refine tri_loop hS (Cx.plain_ok _ _) (Nat.le_refl _) (fun m env H => ∃ (i : Nat) (b : Int), i ≤ l.length ∧ m = l.length - i ∧ b = (l.take i).foldl (freeStep l) (-1) ∧
      env = mkE 54 [(0, vM fl l), (3, .int .i64 b), (4, .int .i64 i)] ∧ H = []) l.length
    (.keep [0, 3, 4]) (Nat.zero_le _) ⟨0, -1, Nat.zero_le _, rfl, rfl, rfl, rfl⟩ ?_
  rintro m env H ⟨i, b, hi, rfl, hb, rfl, rfl⟩ hh
  refine T_of_W (tab := tabM) (D := []) (tr := tr50) tabM_ok (Cx.plain_ok _ _) (by kernel_rfl) hh (fun z' S' Q' hz' hS' hQ => ?_)
  cbv
  rcases h1 : z' .lt (Int.ofNat i) (S' .len (Int × Int) l) with _ | _
  · cbv
    apply hQ
    cbv
    rw [hz', hS'] at h1
    simp [realz, reals] at h1
    have e : l.take i = l := List.take_of_length_le h1
    refine hR _ _ _ _ (Wk.refl _ _) ⟨?_, rfl⟩
    rw [hb, e]; rfl
  · have hlt : i < l.length := by
      rw [hz', hS'] at h1
      simp [realz, reals] at h1
      omega
    have hst := fold_take (freeStep l) (-1) l (0, 0) hlt
    cbv
    refine tri_loop hS' (Cx.plain_ok _ _) (Nat.le_refl _) (fun m env H => ∃ (k : Nat) (u : Bool), k ≤ l.length ∧ m = l.length - k ∧ u = ((l.take k).any fun q => q.2 == (l.getD i (0, 0)).1) ∧
      env = mkE 54 [(0, vM fl l), (3, .int .i64 b), (4, .int .i64 i), (5, .bool u), (6, .int .i64 k)] ∧ H = []) l.length
      (.keep [0, 3, 4, 5, 6]) (Nat.zero_le _) ⟨0, false, Nat.zero_le _, rfl, rfl, rfl, rfl⟩ ?_
    rintro m env H ⟨k, u, hk, rfl, hu, rfl, rfl⟩ hh'
    refine T_of_W (tab := tabM) (D := []) (tr := tr50) tabM_ok (Cx.plain_ok _ _) (by kernel_rfl) hh' (fun z2 S2 Q2 hz2 hS2 hQ2 => ?_)
    cbv
    rcases h2 : z2 .lt (Int.ofNat k) (S2 .len (Int × Int) l) with _ | _
    · cbv
      apply hQ2
      rw [hz2, hS2] at h2
      simp [realz, reals] at h2
      have e : l.take k = l := List.take_of_length_le h2
      rw [e] at hu
      cases u with
      | true =>
        cbv
        apply hQ
        subst hz' hS'
        refine ⟨_, _, _, ?_, .keep [0, 3, 4], i + 1, b, hlt, rfl, ?_, ?_, rfl⟩
        · omega
        · rw [hst, ← hb, freeStep, ← hu]; rfl
        · rw [rz_inc i (by omega)]; rfl
      | false =>
        cbv
        rcases h3 : z' .lt b 0 with _ | _
        · cbv
          refine ⟨by rw [hS']; simp [reals]; omega, ?_⟩
          rcases h4 : z' .lt (S' .at_ (Int × Int) (0, 0) l (z' .nat (Int.ofNat i))).1 b with _ | _
          · cbv
            apply hQ
            subst hz' hS'
            have h3' : decide (b < 0) = false := h3
            have h4' : decide ((l.getD i (0, 0)).1 < b) = false := h4
            refine ⟨_, _, _, ?_, .keep [0, 3, 4], i + 1, b, hlt, rfl, ?_, ?_, rfl⟩
            · omega
            · rw [hst, ← hb, freeStep, ← hu, h3', h4']; rfl
            · rw [rz_inc i (by omega)]; rfl
          · cbv
            refine ⟨by rw [hS']; simp [reals]; omega, ?_⟩
            apply hQ
            subst hz' hS'
            have h4' : decide ((l.getD i (0, 0)).1 < b) = true := h4
            refine ⟨_, _, _, ?_, .keep [0, 3, 4], i + 1, (l.getD i (0, 0)).1, hlt, rfl, ?_, ?_, rfl⟩
            · omega
            · rw [hst, ← hb, freeStep, ← hu, h4']; simp
            · rw [rz_inc i (by omega)]; rfl
        · cbv
          refine ⟨by rw [hS']; simp [reals]; omega, ?_⟩
          apply hQ
          subst hz' hS'
          have h3' : decide (b < 0) = true := h3
          refine ⟨_, _, _, ?_, .keep [0, 3, 4], i + 1, (l.getD i (0, 0)).1, hlt, rfl, ?_, ?_, rfl⟩
          · omega
          · rw [hst, ← hb, freeStep, ← hu, h3']; simp
          · rw [rz_inc i (by omega)]; rfl
    · have hlk : k < l.length := by
        rw [hz2, hS2] at h2
        simp [realz, reals] at h2
        omega
      have hsu := any_take (fun q : Move => q.2 == (l.getD i (0, 0)).1) l (0, 0) hlk
      cases u with
      | true =>
        cbv
        refine ⟨by rw [hS2]; exact ⟨rfl, by kernel_rfl⟩, ⟨?_, trivial⟩, ⟨?_, trivial⟩, trivial⟩ <;>
        · apply hQ2
          subst hz2 hS2
          refine ⟨_, _, _, ?_, .keep [0, 3, 4, 5, 6], k + 1, true, hlk, rfl, ?_, ?_, rfl⟩
          · omega
          · rw [hsu, ← hu]; rfl
          · rw [rz_inc k (by omega)]; rfl
      | false =>
        cbv
        refine ⟨by rw [hS2]; exact ⟨rfl, by kernel_rfl⟩, by rw [hS2]; simp [reals]; omega, by rw [hS2]; simp [reals]; omega, ⟨?_, trivial⟩, ⟨?_, trivial⟩, trivial⟩ <;>
        · apply hQ2
          subst hz2 hS2
          refine ⟨_, _, _, ?_, .keep [0, 3, 4, 5, 6], k + 1, (l.getD k (0, 0)).2 == (l.getD i (0, 0)).1, hlk, rfl, ?_, ?_, rfl⟩
          · omega
          · rw [hsu, ← hu]; rfl
          · rw [rz_inc k (by omega)]; rfl
end Go.Ab

/- The reference: places, loads, stores, sources. -/
namespace Go.Ab
open Go.Proofs

def placeR (n : Int) : Bool := decide (0 ≤ n) && decide (n < 16400)
def loadM (reg place : Int) : Mac := ⟨30, reg, 0, 0, 0, 0, place - 16⟩
def storeM (reg place : Int) : Mac := ⟨31, 0, 0, reg, 0, 0, place - 16⟩
def movM (to frm : Int) : Mac := ⟨1, to, 0, frm, 0, 0, 0⟩
def swapM (a b : Int) : Mac := ⟨2, 0, 0, a, b, 0, 0⟩

theorem Place_ct (yl : Nat) (n : Int) : CT Try.prog (Cx.plain yl) noAr 64 [.int .i64 n] [] (fun o H => o = .ret (.bool (placeR n)) ∧ H = []) := by
  refine CT_of_W (tab := tabM) (D := []) (tr := noTr) Try.func64 (by kernel_rfl) rfl tabM_ok (Cx.plain_ok _ _) (by kernel_rfl) (fun z S R hz hS hR => ?_)
  cbv
  rcases h1 : z .le 0 n with _ | _ <;> cbv <;> refine hR _ _ _ _ (Wk.refl _ _) ⟨?_, rfl⟩ <;> subst hz
  · have h : decide (0 ≤ n) = false := h1
    rw [placeR, h]; rfl
  · have h : decide (0 ≤ n) = true := h1
    rw [placeR, h]; rfl

theorem load65_ct (yl : Nat) (reg place : Int) (h0 : -1000000 ≤ place) (h1 : place ≤ 1000000) : CT Try.prog (Cx.plain yl) noAr 65 [.int .i64 reg, .int .i64 place] [] (fun o H => ∃ m, m = loadM reg place ∧ o = .ret (.agg (encK m)) ∧ H = []) := by
  refine CT_of_W (tab := tabM) (D := []) (tr := noTr) Try.func65 (by kernel_rfl) rfl tabM_ok (Cx.plain_ok _ _) (by kernel_rfl) (fun z S R hz hS hR => ?_)
  cbv
  refine hR _ _ _ _ (.drop 0 rfl (Nat.zero_le _)) ⟨_, rfl, ?_, rfl⟩
  subst hz
  rw [rz_sub (by omega) (by omega), rz_wr (by omega) (by omega)]
  rfl

theorem store66_ct (yl : Nat) (reg place : Int) (h0 : -1000000 ≤ place) (h1 : place ≤ 1000000) : CT Try.prog (Cx.plain yl) noAr 66 [.int .i64 reg, .int .i64 place] [] (fun o H => ∃ m, m = storeM reg place ∧ o = .ret (.agg (encK m)) ∧ H = []) := by
  refine CT_of_W (tab := tabM) (D := []) (tr := noTr) Try.func66 (by kernel_rfl) rfl tabM_ok (Cx.plain_ok _ _) (by kernel_rfl) (fun z S R hz hS hR => ?_)
  cbv
  refine hR _ _ _ _ (.drop 0 rfl (Nat.zero_le _)) ⟨_, rfl, ?_, rfl⟩
  subst hz
  rw [rz_sub (by omega) (by omega), rz_wr (by omega) (by omega)]
  rfl

def sourceR (l : List Move) (p : Int) : Int := l.foldl (fun o m => if m.1 == p then m.2 else o) (-1)

theorem source_ct (yl : Nat) (fl : Bool) (l : List Move) (p : Int) (hl : l.length ≤ 1000) : CT Try.prog (Cx.plain yl) noAr 52 [vM fl l, .int .i64 p] [] (fun o H => o = .ret (.int .i64 (sourceR l p)) ∧ H = []) := by
  refine CT_of_W (tab := tabM) (D := []) (tr := noTr) Try.func52 (by kernel_rfl) rfl tabM_ok (Cx.plain_ok _ _) (by kernel_rfl) (fun z S R hz hS hR => ?_)
  cbv
  refine tri_loop hS (Cx.plain_ok _ _) (Nat.le_refl _) (fun m env H => ∃ (i : Nat) (b : Int), i ≤ l.length ∧ m = l.length - i ∧ b = (l.take i).foldl (fun o m => if m.1 == p then m.2 else o) (-1) ∧
      env = mkE 26 [(0, vM fl l), (1, .int .i64 p), (5, .int .i64 b), (6, .int .i64 i)] ∧ H = []) l.length
    (.keep [0, 1, 5, 6]) (Nat.zero_le _) ⟨0, -1, Nat.zero_le _, rfl, rfl, rfl, rfl⟩ ?_
  rintro m env H ⟨i, b, hi, rfl, hb, rfl, rfl⟩ hh
  refine T_of_W (tab := tabM) (D := []) (tr := noTr) tabM_ok (Cx.plain_ok _ _) (by kernel_rfl) hh (fun z' S' Q' hz' hS' hQ => ?_)
  cbv
  rcases h1 : z' .lt (Int.ofNat i) (S' .len (Int × Int) l) with _ | _
  · cbv
    apply hQ
    cbv
    rw [hz', hS'] at h1
    simp [realz, reals] at h1
    have e : l.take i = l := List.take_of_length_le h1
    refine hR _ _ _ _ (Wk.refl _ _) ⟨?_, rfl⟩
    rw [hb, e]; rfl
  · have hlt : i < l.length := by
      rw [hz', hS'] at h1
      simp [realz, reals] at h1
      omega
    have hst := fold_take (fun (o : Int) (m : Move) => if m.1 == p then m.2 else o) (-1) l (0, 0) hlt
    cbv
    refine ⟨by rw [hS']; simp [reals]; omega, ?_⟩
    rcases h2 : z' .eq (S' .at_ (Int × Int) (0, 0) l (z' .nat (Int.ofNat i))).1 p with _ | _
    · cbv
      apply hQ
      subst hz' hS'
      have h3 : ((l.getD i (0, 0)).1 == p) = false := h2
      refine ⟨_, _, _, ?_, .keep [0, 1, 5, 6], i + 1, b, hlt, rfl, ?_, ?_, rfl⟩
      · omega
      · rw [hst, h3, hb]; rfl
      · rw [rz_inc i (by omega)]; rfl
    · cbv
      refine ⟨by rw [hS']; simp [reals]; omega, ?_⟩
      apply hQ
      subst hz' hS'
      have h3 : ((l.getD i (0, 0)).1 == p) = true := h2
      refine ⟨_, _, _, ?_, .keep [0, 1, 5, 6], i + 1, (l.getD i (0, 0)).2, hlt, rfl, ?_, ?_, rfl⟩
      · omega
      · rw [hst, h3]; rfl
      · rw [rz_inc i (by omega)]; rfl
end Go.Ab

/- The reference: circles. -/
namespace Go.Ab
open Go.Proofs

def vI (fl : Bool) (l : List Int) : V := .sl Int 0 1 encI fl l

def circGo (l : List Move) (x : Int) : Nat → List Int → Int → List Int
  | 0, out, _ => out
  | n + 1, out, p => if p != x && decide (0 ≤ p) then circGo l x n (out ++ [p]) (sourceR l p) else out

def circleR (l : List Move) (x : Int) : List Int := circGo l x l.length [x] (sourceR l x)

theorem circle_ct (yl : Nat) (fl : Bool) (l : List Move) (x : Int) (hl : l.length ≤ 1000) : CT Try.prog (Cx.plain yl) noAr 54 [vM fl l, .int .i64 x] [] (fun o H => o = .ret (vI false (circleR l x)) ∧ H = []) := by
  refine CT_of_W (tab := tabM) (D := [8]) (tr := noTr) Try.func54 (by kernel_rfl) rfl tabM_ok (Cx.plain_ok _ _) (by kernel_rfl) (fun z S R hz hS hR => ?_)
  cbv
  refine use_ct [] hS (Cx.plain_ok _ _) rfl (fun yl => source_ct yl fl l x hl) (may_none []) ?_
  rintro o h' ⟨rfl, rfl⟩
  generalize hp0 : sourceR l x = p0
  cbv
  refine tri_loop hS (Cx.plain_ok _ _) (Nat.zero_le _) (fun m env H => ∃ (n : Nat) (out : List Int) (p : Int), out.length = n ∧ n ≤ l.length + 1 ∧ m = l.length + 1 - n ∧ 1 ≤ n ∧ circGo l x m out p = circleR l x ∧
      env = mkE 34 [(0, vM fl l), (1, .int .i64 x), (5, .ref 0 1 0 n), (6, .int .i64 p)] ∧ H = [.arr 3 elI out]) l.length
    (.keep [0, 1, 5, 6]) (Nat.zero_le _) ⟨1, [x], p0, rfl, by omega, by omega, Nat.le_refl _, by rw [← hp0]; rfl, rfl, rfl⟩ ?_
  rintro m env H ⟨n, out, p, ho, hn, rfl, hn1, hc, rfl, rfl⟩ hh
  refine T_of_W (tab := tabM) (D := [8]) (tr := noTr) tabM_ok (Cx.plain_ok _ _) (by kernel_rfl) hh (fun z' S' Q' hz' hS' hQ => ?_)
  have done : (p != x && decide (0 ≤ p)) = false ∨ ¬ n ≤ l.length → circleR l x = out := fun h => by
    rw [← hc]
    rcases h with h | h
    · cases l.length + 1 - n with
      | zero => rfl
      | succ k => simp only [circGo, h]; rfl
    · have e : l.length + 1 - n = 0 := by omega
      rw [e]; rfl
  have fin : ∀ rs, rs = [V.ref 0 1 0 n] → circleR l x = out → R rs [.arr 3 elI out] := fun rs hr he => by
    subst hr
    refine hR _ _ _ _ (.trans (.freeze 0 rfl) (.drop 0 rfl (Nat.zero_le _))) ⟨?_, rfl⟩
    show Out.ret (vI false (out.take n)) = _
    rw [← ho, List.take_length, he]
  cbv
  rcases h1 : z' .ne p x with _ | _
  · cbv
    apply hQ
    cbv
    subst hz'
    have h1' : (p != x) = false := h1
    exact fin _ rfl (done (.inl (by rw [h1']; rfl)))
  · cbv
    rcases h2 : z' .le 0 p with _ | _
    · cbv
      apply hQ
      cbv
      subst hz'
      have h2' : decide (0 ≤ p) = false := h2
      exact fin _ rfl (done (.inl (by rw [h2']; simp)))
    · cbv
      rcases h3 : z' .le (Int.ofNat n) (S' .len (Int × Int) l) with _ | _
      · cbv
        apply hQ
        cbv
        rw [hz', hS'] at h3
        simp [realz, reals] at h3
        exact fin _ rfl (done (.inr (by omega)))
      · have hnl : n ≤ l.length := by
          rw [hz', hS'] at h3
          simpa [realz, reals] using h3
        have hcg : circGo l x (l.length + 1 - (n + 1)) (out ++ [p]) (sourceR l p) = circleR l x := by
          rw [← hc]
          have e : l.length + 1 - n = (l.length + 1 - (n + 1)) + 1 := by omega
          have h1' : (p != x) = true := by rw [hz'] at h1; exact h1
          have h2' : decide (0 ≤ p) = true := by rw [hz'] at h2; exact h2
          rw [e]
          simp only [circGo, h1', h2']
          rfl
        cbv
        refine ⟨by rw [hz']; simp [realz]; omega, by rw [hS']; exact fun k hk => absurd hk (Nat.not_lt_zero _), ?_⟩
        refine use_ct [] hS' (Cx.plain_ok _ _) rfl (fun yl => source_ct yl fl l p hl) (may_none []) ?_
        rintro o h' ⟨rfl, rfl⟩
        generalize hp1 : sourceR l p = p1 at hcg
        cbv
        apply hQ
        subst hz' hS'
        refine ⟨_, _, _, ?_, .keep [0, 1, 5, 6], n + 1, out ++ [p], p1, by simp [ho], by omega, rfl, by omega, hcg, rfl, ?_⟩
        · omega
        · show [Blk.arr 3 elI ((out.take n).drop 0 ++ [p])] = _
          rw [← ho, List.take_length]; rfl
end Go.Ab
