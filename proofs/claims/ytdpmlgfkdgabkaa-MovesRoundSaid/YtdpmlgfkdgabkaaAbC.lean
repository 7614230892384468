/- Contracts of the program's functions over an abstract state, and what they rest on: part AbC. No condition. -/
import Derived.Test.YtdpmlgfkdgabkaaAbB
import Derived.OrdersIn
set_option linter.unusedVariables false
set_option linter.unusedSimpArgs false

/- Operations, all of them. -/
namespace Go.Ab
section
variable {P : Program} {n0 : Lim} {cx : Cx} {rnd : Option Nat} {tab : Tab} {D : List Nat} {G G' : Gh} {a : Act} {w w' : World} {env : Env} {H : Heap} {o : Oper} {K : Env → V → Heap → Prop}

theorem Ext.weaken {p : Ar} {m : Nat} (hn : n0.n ≤ m) (hp : n0.may p) (e : Ext ⟨m, p⟩ G w G' w') (hG : m ≤ G.n) : Ext n0 G w G' w' :=
  ⟨e.prot, e.keep, e.size, e.os, e.tape, e.output, fun k hk => e.blk k (Nat.lt_of_lt_of_le hk hn), e.yl, fun k hk h => e.arv k (Nat.lt_of_lt_of_le hk hn) (by
    cases hpk : p k with
    | false => exact hpk
    | true => rw [hp k hk hpk] at h; cases h), e.fr, e.kfr, fun _ => Nat.le_trans hn (e.len hG), e.mks⟩

theorem run_callFunc {f : Nat} {vs : Array Value} (h : Callable P f) : (callFunc f vs).run P w = .ok (.enter f vs) w := by
  obtain ⟨fn, hf, hn, hb⟩ := h
  have hn' : ¬ fn.name = "runtime.NumGoroutine" := by simpa using hn
  have hb' : ¬ fn.body = none := by intro h; rw [h] at hb; cases hb
  simp [callFunc, hf, hn', hb']

/-- What stays of values behind a call. -/
theorem LeK.of_ext {p : Ar} (e : Ext ⟨G.n, p⟩ G w G' w') : LeK p G w G' w' :=
  ⟨e.prot, fun q hq => cell_of_heap (e.keep _ hq), e.len (Nat.le_refl _), e.blk, e.arv, e.yl⟩

theorem RepL.appendV {vs us : List Value} {l m : List V} (r : RepL G w vs l) (q : RepL G w us m) : RepL G w (vs ++ us) (l ++ m) := r.append q

/-- The state behind a call. -/
theorem Sim.called {p : Ar} (s : Sim G a w env H) {H' : Heap} (e : Ext ⟨H.length, p⟩ G w G' w') (sh : SimH G' w' H') (hm : G'.marks = G.marks) : Sim G' a w' (env.map (killV p)) H' := by
  have hn := s.h.n
  rw [← hn] at e
  refine ⟨sh, by rw [map_killV]; exact s.env.kill (LeK.of_ext e), by rw [hm]; exact s.marks, fun D hD => ?_, by rw [hm]; exact s.nd⟩
  rw [hm] at hD
  obtain ⟨h1, h2⟩ := s.md D hD
  exact ⟨by rw [e.keep D h2]; exact h1, e.prot D h2⟩

/-- The same ghost, with other marks. -/
def Gh.mk' (G : Gh) (m : List Nat) : Gh := { G with marks := m }

theorem Le.marks (m : List Nat) : Le G w (G.mk' m) w := ⟨fun _ h => h, fun _ _ => rfl, Nat.le_refl _, fun _ _ => rfl, fun _ _ => rfl, rfl⟩

theorem SimH.marks (s : SimH G w H) (m : List Nat) : SimH (G.mk' m) w H :=
  ⟨s.n, fun k b hk => (s.rep k b hk).mono (Le.marks m) (Nat.le_refl _) (s.lt hk) (fun _ _ => rfl) (fun _ _ _ _ _ _ _ _ h => h), fun k b q hk hq => s.own k b q hk (by rw [← hq]; cases b <;> rfl),
   fun k k' b b' q h1 h2 o1 o2 => s.inj k k' b b' q h1 h2 (by rw [← o1]; cases b <;> rfl) (by rw [← o2]; cases b' <;> rfl), s.plt, fun k b q hk hq => s.fro k b q hk (by rw [← hq]; cases b <;> rfl), s.frs⟩

theorem Ext.marks (e : Ext n0 G w G' w') : Ext n0 G w (G'.mk' G.marks) w' :=
  ⟨e.prot, e.keep, e.size, e.os, e.tape, e.output, e.blk, e.yl, e.arv, e.fr, e.kfr, e.len, fun _ h => .inl h⟩

theorem uponIn_done {next : Act → World → Prop} {Q : Exit → Act → World → Prop} (d : Done P n0 G a w o K)
    (hnext : ∀ G' v w' env' x H', Ext n0 G w G' w' → Sim G' a w' env' H' → Rep G' w' v x → K env' x H' → next (a.put o.dst v) w') :
    o.uponIn (Fw rnd) 0 P a next Q ((execOp a.eval o).run P w) := by
  obtain ⟨r, v, w', hr, hv, G', env', x, H', he, hs, hrep, hK⟩ := d
  rw [hr]
  rcases hv with rfl | ⟨rfl, rfl⟩
  · exact hnext G' v w' env' x H' he hs hrep hK
  · exact hnext G' undef w' env' x H' he hs hrep hK

/-- A call of a function. -/
theorem uponIn_call {next : Act → World → Prop} {Q : Exit → Act → World → Prop} {f : Nat} {vs : Array Value} {args : List V} (s : Sim G a w env H) (hn : n0.n ≤ H.length) (hc : cx.ok G w) (hr : RepL G w vs.toList args)
    (h : reals P cx rnd n0 .call f args H fun | .ret v, p, H' => K (env.map (killV p)) v H' | .pan _, _, _ => False)
    (hnext : ∀ G' v w' env' x H', Ext n0 G w G' w' → Sim G' a w' env' H' → Rep G' w' v x → K env' x H' → next (a.put o.dst v) w')
    (hrun : ∀ f' vs', f' = f → vs' = vs → (execOp a.eval o).run P w = .ok (.enter f' vs') w) : o.uponIn (Fw rnd) 0 P a next Q ((execOp a.eval o).run P w) := by
  obtain ⟨p, hp, _, hct⟩ := h
  rw [hrun f vs rfl rfl, Oper.uponIn_enter]
  refine ⟨fun h => (by cases h), ?_⟩
  have hcall : CallsIn (Fw rnd) 0 P f vs w _ := hct G w vs hc s.h hr
  refine CallsIn.mono hcall (fun e w' he => ?_)
  obtain ⟨G', x, H', hend, hext, hsim, hK⟩ := he
  cases e with
  | returned v =>
    cases x with
    | ret x =>
      have s' := s.called (hext.marks) (hsim.marks G.marks) rfl
      exact hnext (G'.mk' G.marks) v w' _ x H' ((hext.marks).weaken hn hp (by rw [s.h.n]; exact Nat.le_refl _)) s' (Rep.mono (Le.marks _) hend) hK
    | pan x => exact hK.elim
  | panicked chain =>
    cases x with
    | ret x => exact hend.elim
    | pan x => exact hK.elim
  | outgrown => cases x <;> exact hend.elim
end
end Go.Ab

/- Every operation that the evaluator takes does what it says. -/
namespace Go.Ab
section
variable {P : Program} {n0 : Lim} {cx : Cx} {rnd : Option Nat} {tab : Tab} {D : List Nat} {G G' : Gh} {a : Act} {w w' : World} {env : Env} {H : Heap} {o : Oper} {K : Env → V → Heap → Prop}

theorem uponIn_fn {next : Act → World → Prop} {Q : Exit → Act → World → Prop} (s : Sim G a w env H) (hk : okOper o = true) (hn : n0.n ≤ H.length) (hc : cx.ok G w) (c : Call) (ho : o.op = .call c) (f : Operand) (hf : c.callee = .value f) (hyl : cx.Ok n0)
    (h : Op1 realz (reals P cx rnd n0) tab D (.call c) o.dst env H K)
    (hnext : ∀ G' v w' env' x H', Ext n0 G w G' w' → Sim G' a w' env' H' → Rep G' w' v x → K env' x H' → next (a.put o.dst v) w') :
    o.uponIn (Fw rnd) 0 P a next Q ((execOp a.eval o).run P w) := by
  have hks : ∀ x ∈ c.args.toList, okOpd x = true := fun x hx => okOper_mem hk (by simp [ho, Op.operands, Call.operands]; right; simpa using hx)
  have rf := rep_opd s f (okOper_mem hk (by simp [ho, Op.operands, Call.operands, hf]))
  have ra := rep_opds s c.args.toList (List.all_eq_true.2 hks)
  simp only [Op1, hf] at h
  generalize opd env f = fv at h rf
  generalize hvf : a.eval f = vf at rf
  split at h
  · rename_i g first cap
    cases rf with
    | fn _ fs cs _ _ h1 h2 hfa hfb =>
    refine uponIn_call s hn hc (vs := fs ++ c.args.map a.eval ++ cs) ?_ h hnext (fun f' vs' e1 e2 => ?_)
    · have r1 : RepL G w fs.toList first := ⟨by simpa using h1, fun i c x hc hx => hfa i c x (by simpa using hc) hx⟩
      have r2 : RepL G w cs.toList cap := ⟨by simpa using h2, fun i c x hc hx => hfb i c x (by simpa using hc) hx⟩
      simpa using (r1.append ra).append r2
    · subst e1; subst e2
      obtain ⟨p, hp, hcall, _⟩ := h
      simp [execOp, ho, resolve, hf, hvf, Deferred.ofValue, invoke, run_callFunc hcall]
  · cases rf with
    | yld =>
    obtain ⟨p, hp, hct⟩ := h
    obtain ⟨f', tmps, assign, body, hrun, hround⟩ := hct G w (c.args.map a.eval) hc s.h (by simpa using ra)
    have hy := hyl.yl G w hc
    have e : (execOp a.eval o).run P w = .ok (.round cx.yl f' tmps assign body) w := by
      simp [execOp, ho, resolve, hf, hvf, Deferred.ofValue, invoke, hy, hrun]
    rw [e, Oper.uponIn_round]
    refine ⟨fun h => (by cases h), ?_⟩
    have hround' : RoundIn (Fw rnd) 0 P cx.yl f' tmps assign body w _ := hround
    refine RoundIn.mono hround' (fun e w' he => ?_)
    obtain ⟨G', x, H', hend, hext, hsim, hK⟩ := he
    cases e with
    | returned v =>
      cases x with
      | ret x =>
        have s' := s.called (hext.marks) (hsim.marks G.marks) rfl
        exact hnext (G'.mk' G.marks) v w' _ x H' ((hext.marks).weaken hn hp (by rw [s.h.n]; exact Nat.le_refl _)) s' (Rep.mono (Le.marks _) hend) hK
      | pan x => exact hK.elim
    | panicked chain =>
      cases x with
      | ret x => exact hend.elim
      | pan x => exact hK.elim
    | outgrown => cases x <;> exact hend.elim
  · exact h.elim

theorem op_sound {next : Act → World → Prop} {Q : Exit → Act → World → Prop} (s : Sim G a w env H) (hT : ∀ t, TIok P t (tab t)) (hk : okOper o = true) (hn : n0.n ≤ H.length) (hc : cx.ok G w) (hyl : cx.Ok n0)
    (h : Op1 realz (reals P cx rnd n0) tab D o.op o.dst env H K)
    (hnext : ∀ G' v w' env' x H', Ext n0 G w G' w' → Sim G' a w' env' H' → Rep G' w' v x → K env' x H' → next (a.put o.dst v) w') :
    o.uponIn (Fw rnd) 0 P a next Q ((o.semAt (Fw rnd).round a.eval).run P w) := by
  have hdef : ∀ c, o.op ≠ .defer c := fun c e => by rw [e] at h; exact h
  rw [Oper.semAt_eq _ _ _ hdef]
  cases hop : o.op <;> rw [hop] at h
  case move x => exact uponIn_done (done_move s x (.inl hop) hk h) hnext
  case assign x => exact uponIn_done (done_move s x (.inr hop) hk h) hnext
  case pick c x y => exact uponIn_done (done_pick s c x y hop hk h) hnext
  case alloc t => exact uponIn_done (done_alloc s hT t hop hn h) hnext
  case box t x => exact uponIn_done (done_box s t x hop hn hk h) hnext
  case build t ps => exact uponIn_done (done_build s hT t ps hop hk h) hnext
  case buildSlice t len ps => exact uponIn_done (done_buildSlice s hT t len ps hop hk hn h) hnext
  case load t x => exact uponIn_done (done_load s hT t x hop hk h) hnext
  case store t p x => exact uponIn_done (done_store s hT t p x hop hk h) hnext
  case nilCheck x => exact uponIn_done (done_nilCheck s x hop hk h) hnext
  case binOp op t x y t' => exact uponIn_done (done_bin s hT op t t' x y hop hk h) hnext
  case unOp u t x => exact uponIn_done (done_unOp s u t x hop hk h) hnext
  case convert src dst x => exact uponIn_done (done_convert s hT src dst x hop hk h) hnext
  case makeFunc fn first cap =>
    cases fn with
    | func f => exact uponIn_done (done_makeFunc s f first cap hop hk h) hnext
    | _ => exact h.elim
  case makeMap t r =>
    cases r with
    | none => exact uponIn_done (done_makeMap s hT t hop hn h) hnext
    | some _ => exact h.elim
  case makeSlice t l c => exact uponIn_done (done_makeSlice s hT t l c hop hk hn h) hnext
  case slice t x lo hi mx =>
    cases mx with
    | none => exact uponIn_done (done_slice s hT t x lo hi hop hk h) hnext
    | some _ => exact h.elim
  case fieldAddr t x f => exact uponIn_done (done_fieldAddr s hT t x f hop hk h) hnext
  case field t x f => exact uponIn_done (done_field s hT t x f hop hk h) hnext
  case indexAddr t x i => exact uponIn_done (done_indexAddr s hT t x i hop hk h) hnext
  case index t x i => exact uponIn_done (done_index s hT t x i hop hk h) hnext
  case lookup t x i ok => exact uponIn_done (done_lookup s hT t x i ok hop hk h) hnext
  case mapUpdate t x i v => exact uponIn_done (done_mapUpdate s hT t x i v (.inl hop) hk h) hnext
  case insert t x i v => exact uponIn_done (done_mapUpdate (D := D) s hT t x i v (.inr hop) hk h) hnext
  case range t x => exact uponIn_done (done_range s hT t x hop hk hn h) hnext
  case next it b =>
    cases b with
    | false => exact uponIn_done (done_next s it hop hk h) hnext
    | true => exact h.elim
  case entry it => exact uponIn_done (done_entry s it hop hk h) hnext
  case extract x i => exact uponIn_done (done_extract s x i hop hk h) hnext
  case call c =>
    cases hcal : c.callee with
    | value f => exact uponIn_fn s hk hn hc c hop f hcal hyl h hnext
    | invoke r m => simp only [Op1, hcal] at h
    | builtin b =>
      cases b with
      | append => exact uponIn_done (done_append s hT c hop hcal hk hn h) hnext
      | len => exact uponIn_done (done_len s hT c hop hcal hk h) hnext
      | clear => exact uponIn_done (done_clear s hT c hop hcal hk h) hnext
      | min => exact uponIn_done (done_minmax s c hop (.inl hcal) hk h) hnext
      | max => exact uponIn_done (done_minmax s c hop (.inr hcal) hk h) hnext
      | _ => simp only [Op1, hcal] at h
  all_goals exact h.elim
end
end Go.Ab

/- The evaluator is right. -/
namespace Go.Ab

def pureOp : Op → Bool
  | .move _ | .assign _ | .pick .. | .binOp .. | .nilCheck _ | .unOp .. | .convert .. | .makeFunc .. | .extract .. | .fieldAddr .. | .indexAddr .. => true
  | _ => false

def isAlt : DT → Bool
  | .alt .. | .stop => true
  | _ => false

def okT (ops : Array Oper) : DT → Nat → Array Bool → List Nat → Bool
  | .done, _, listed, _ => (Region.ready .any ops listed).isEmpty
  | .take i t, fuel, listed, _ => match fuel with
    | 0 => false
    | fuel + 1 => (match ops[i]? with | some o => pureOp o.op | none => false) && Region.free .any ops listed i && (Region.ready .any ops listed).contains i && okT ops t fuel (listed.setIfInBounds i true) []
  | .alt i t r, fuel, listed, seen => match fuel with
    | 0 => false
    | fuel + 1 => isAlt r && okT ops t fuel (listed.setIfInBounds i true) [] && okT ops r (fuel + 1) listed (i :: seen)
  | .stop, fuel, listed, seen => match fuel with
    | 0 => false
    | _ + 1 => !(Region.ready .any ops listed).isEmpty && (Region.ready .any ops listed).all fun i => seen.contains i

def okTree (ops : Array Oper) (fuel : Nat) (listed : Array Bool) (seen : List Nat) (t : DT) : Bool := okT ops t fuel listed seen

def okCode (tr : Nat → DT) : Code → Bool
  | .region id ops draw => ops.toList.all okOper && (!draw || (Region.noSelect ops && okTree ops ops.size (Array.replicate ops.size false) [] (tr id)))
  | .seq a b => okCode tr a && okCode tr b
  | .cond c a b => okOpd c && okCode tr a && okCode tr b
  | .block _ b => okCode tr b
  | _ => true

section
variable {P : Program} {n0 : Lim} {cx : Cx} {rnd : Option Nat} {tab : Tab} {D : List Nat} {tr : Nat → DT} {G G' : Gh} {a : Act} {w w' : World} {env : Env} {H : Heap} {o : Oper} {K : Env → V → Heap → Prop}

theorem pure_sound (s : Sim G a w env H) (hT : ∀ t, TIok P t (tab t)) (hk : okOper o = true) (hp : pureOp o.op = true) (h : Op1 realz (reals P cx rnd n0) tab D o.op o.dst env H K) : DoneA P G a w o K env H := by
  cases hop : o.op <;> rw [hop] at h hp <;> try (simp [pureOp] at hp; done)
  case move x => exact pure_move s x (.inl hop) hk h
  case assign x => exact pure_move s x (.inr hop) hk h
  case pick c x y => exact pure_pick s c x y hop hk h
  case nilCheck x => exact pure_nilCheck s x hop hk h
  case binOp op t x y t' => exact pure_bin s hT op t t' x y hop hk h
  case unOp u t x => exact pure_unOp s u t x hop hk h
  case convert src dst x => exact pure_convert s hT src dst x hop hk h
  case makeFunc fn first cap =>
    cases fn with
    | func f => exact pure_makeFunc s f first cap hop hk h
    | _ => exact h.elim
  case fieldAddr t x f => exact pure_fieldAddr s hT t x f hop hk h
  case indexAddr t x i => exact pure_indexAddr s hT t x i hop hk h
  case extract x i => exact pure_extract s x i hop hk h

theorem yielded_of {ops : Array Oper} {all : List Oper} (hall : ops.toList = all) {j sl : Nat} {b : Bool} (s : Sim G a w env H) (hs : slotOf all j = some sl) (he : env.getD sl .und = .bool b) : yielded ops a.tmps j = some b := by
  have r := s.env.at sl
  rw [he] at r
  have hv := r.bool_inv
  have e : (ops[j]?).bind (·.dst) = some sl := by
    rw [← Array.getElem?_toList, hall]
    unfold slotOf at hs
    cases h : all[j]? with
    | none => rw [h] at hs; cases hs
    | some o => rw [h] at hs; simpa using hs
  have hlt : sl < a.tmps.size := by
    rcases Nat.lt_or_ge sl a.tmps.size with h | h
    · exact h
    · rw [List.getD_eq_getElem?_getD, List.getElem?_eq_none (by rw [← s.env.1]; simpa using h)] at he
      cases he
  rw [List.getD_eq_getElem?_getD, Array.getElem?_toList, Array.getElem?_eq_getElem hlt] at hv
  simp only [Option.getD_some] at hv
  unfold yielded
  simp [e, Array.getElem?_eq_getElem hlt, hv]

theorem yielded_none {ops : Array Oper} {all : List Oper} (hall : ops.toList = all) {j sl : Nat} {l : List V} (s : Sim G a w env H) (hs : slotOf all j = some sl) (he : env.getD sl .und = .tuple l) : yielded ops a.tmps j = none := by
  have r := s.env.at sl
  rw [he] at r
  have e : (ops[j]?).bind (·.dst) = some sl := by
    rw [← Array.getElem?_toList, hall]
    unfold slotOf at hs
    cases h : all[j]? with
    | none => rw [h] at hs; cases hs
    | some o => rw [h] at hs; simpa using hs
  have hlt : sl < a.tmps.size := by
    rcases Nat.lt_or_ge sl a.tmps.size with h | h
    · exact h
    · rw [List.getD_eq_getElem?_getD, List.getElem?_eq_none (by rw [← s.env.1]; simpa using h)] at he
      cases he
  rw [List.getD_eq_getElem?_getD, Array.getElem?_toList, Array.getElem?_eq_getElem hlt] at r
  simp only [Option.getD_some] at r
  unfold yielded
  generalize hv : a.tmps[sl] = v at r
  cases r with
  | tuple cs _ _ _ => simp [e, Array.getElem?_eq_getElem hlt, hv]

/-- One operation of a region. -/
theorem op1_sound {ops : Array Oper} {all : List Oper} (hall : ops.toList = all) (hT : ∀ t, TIok P t (tab t)) (hyl : cx.Ok n0) (hok : ∀ o ∈ all, okOper o = true) {K : Env → Heap → Prop} {i : Nat} {next : Act → World → Prop} {Q : Exit → Act → World → Prop}
    (s : Sim G a w env H) (hn : n0.n ≤ H.length) (hc : cx.ok G w) (h : WI realz (reals P cx rnd n0) tab D all K [i] env H)
    (hnext : ∀ G' a' w' env' H', Ext n0 G w G' w' → Sim G' a' w' env' H' → K env' H' → next a' w') : wpOpIn (Fw rnd) 0 P ops Q i next a w := by
  simp only [WI] at h
  unfold wpOpIn
  have hi : ops[i]? = all[i]? := by rw [← hall, Array.getElem?_toList]
  rw [hi]
  cases ho : all[i]? with
  | none => rw [ho] at h; exact h.elim
  | some o =>
    rw [ho] at h
    simp only at h ⊢
    have hko := hok o (List.mem_of_getElem? ho)
    have good : Op1 realz (reals P cx rnd n0) tab D o.op o.dst env H (fun env' v H' => K (put env' o.dst v) H') → o.wpIn (Fw rnd) 0 P a w next Q := fun h =>
      ⟨fun _ _ => trivial, op_sound s hT hko hn hc hyl h (fun G' v w' env' x H' he hs hr hK => hnext G' _ w' _ H' he (hs.put o.dst hr) hK)⟩
    have ru : Rep G w undef (.tuple []) := .tuple #[] [] rfl (fun i c x h => by simp at h)
    have bad : K (put env o.dst (.tuple [])) H → (∀ f, o.about P w a.eval = some f → (Fw rnd).fn f) ∧ next (a.put o.dst undef) w := fun h =>
      ⟨fun _ _ => trivial, hnext G _ w _ H (Ext.refl _ _ _) (s.put o.dst ru) h⟩
    cases hg : o.guard with
    | none =>
      rw [hg] at h
      have hw : Region.wanted o (yielded ops a.tmps) = true := by simp [Region.wanted, hg]
      rw [if_pos hw]
      exact good h
    | some g =>
      obtain ⟨j, want⟩ := g
      rw [hg] at h
      simp only at h
      cases hsl : slotOf all j with
      | none => rw [hsl] at h; exact h.elim
      | some sl =>
        rw [hsl] at h
        simp only at h
        split at h
        case h_3 => exact h.elim
        case h_2 l' hb =>
          have hy := yielded_none hall s hsl hb
          have hw : ¬ Region.wanted o (yielded ops a.tmps) = true := by simp [Region.wanted, hg, hy]
          rw [if_neg hw]; exact bad h
        rename_i b hb
        have hy := yielded_of hall s hsl hb
        cases want <;> cases b <;> simp only at h
        · have hw : Region.wanted o (yielded ops a.tmps) = true := by simp [Region.wanted, hg, hy]
          rw [if_pos hw]; exact good h
        · have hw : ¬ Region.wanted o (yielded ops a.tmps) = true := by simp [Region.wanted, hg, hy]
          rw [if_neg hw]; exact bad h
        · have hw : ¬ Region.wanted o (yielded ops a.tmps) = true := by simp [Region.wanted, hg, hy]
          rw [if_neg hw]; exact bad h
        · have hw : Region.wanted o (yielded ops a.tmps) = true := by simp [Region.wanted, hg, hy]
          rw [if_pos hw]; exact good h

theorem WI_cons {z : Sz} {S : Sy} {all : List Oper} {K : Env → Heap → Prop} {i : Nat} {rest : List Nat} : WI z S tab D all K (i :: rest) env H = WI z S tab D all (fun env H => WI z S tab D all K rest env H) [i] env H := rfl

theorem WI_sound {ops : Array Oper} {all : List Oper} (hall : ops.toList = all) (hT : ∀ t, TIok P t (tab t)) (hyl : cx.Ok n0) (hok : ∀ o ∈ all, okOper o = true) {K : Env → Heap → Prop} {Q : Exit → Act → World → Prop} : ∀ (l : List Nat) {G : Gh} {a : Act} {w : World} {env : Env} {H : Heap},
    Sim G a w env H → n0.n ≤ H.length → cx.ok G w → WI realz (reals P cx rnd n0) tab D all K l env H → (∀ G' a' w' env' H', Ext n0 G w G' w' → Sim G' a' w' env' H' → K env' H' → Q .normal a' w') → wpOpsIn (Fw rnd) 0 P ops Q l a w
  | [], G, a, w, env, H, s, _, _, h, hQ => hQ G a w env H (Ext.refl _ _ _) s h
  | i :: rest, G, a, w, env, H, s, hn, hc, h, hQ => by
    rw [wpOpsIn_cons]
    rw [WI_cons] at h
    refine op1_sound hall hT hyl hok s hn hc h (fun G' a' w' env' H' he hs hK => ?_)
    have hn' : n0.n ≤ H'.length := by rw [← hs.h.n]; exact he.len (by rw [s.h.n]; exact hn)
    exact WI_sound hall hT hyl hok rest hs hn' (hyl.st _ _ _ _ hc he) hK (fun G'' a'' w'' env'' H'' he' hs' hK' => hQ G'' a'' w'' env'' H'' (he.trans he') hs' hK')
end
end Go.Ab

/- The evaluator is right: code. -/
namespace Go.Ab
section
variable {P : Program} {n0 : Lim} {cx : Cx} {rnd : Option Nat} {tab : Tab} {D : List Nat} {tr : Nat → DT} {G G' : Gh} {a : Act} {w w' : World} {env : Env} {H : Heap} {o : Oper} {K : Env → V → Heap → Prop}

theorem guard_keep {ops : Array Oper} {all : List Oper} (hall : ops.toList = all) {K : Env → Heap → Prop} {i : Nat} (hi : all[i]? = some o) (s : Sim G a w env H) (h : WI realz (reals P cx rnd n0) tab D all K [i] env H) :
    (Region.wanted o (yielded ops a.tmps) = true ∧ Op1 realz (reals P cx rnd n0) tab D o.op o.dst env H (fun env' v H' => K (put env' o.dst v) H')) ∨
    (Region.wanted o (yielded ops a.tmps) = false ∧ K (put env o.dst (.tuple [])) H) := by
  simp only [WI, hi] at h
  cases hg : o.guard with
  | none =>
    rw [hg] at h
    exact .inl ⟨by simp [Region.wanted, hg], h⟩
  | some g =>
    obtain ⟨j, want⟩ := g
    rw [hg] at h
    simp only at h
    cases hsl : slotOf all j with
    | none => rw [hsl] at h; exact h.elim
    | some sl =>
      rw [hsl] at h
      simp only at h
      split at h
      case h_3 => exact h.elim
      case h_2 l' hb => exact .inr ⟨by simp [Region.wanted, hg, yielded_none hall s hsl hb], h⟩
      rename_i b hb
      have hy := yielded_of hall s hsl hb
      cases want <;> cases b <;> simp only at h
      · exact .inl ⟨by simp [Region.wanted, hg, hy], h⟩
      · exact .inr ⟨by simp [Region.wanted, hg, hy], h⟩
      · exact .inr ⟨by simp [Region.wanted, hg, hy], h⟩
      · exact .inl ⟨by simp [Region.wanted, hg, hy], h⟩

theorem pure_about {P : Program} (h : pureOp o.op = true) (w : World) (ρ : Operand → Value) : o.about P w ρ = none := by
  unfold Oper.about
  cases hop : o.op <;> first | rfl | (rw [hop] at h; simp [pureOp] at h)

theorem WT_sound {ops : Array Oper} {all : List Oper} (hall : ops.toList = all) (hT : ∀ t, TIok P t (tab t)) (hyl : cx.Ok n0) (hok : ∀ o ∈ all, okOper o = true) (hsel : Region.noSelect ops = true) {K : Env → Heap → Prop} {Q : Exit → Act → World → Prop}
    (hrnd : rnd = none) (hQ : ∀ c a w, ¬ Q (.panic c) a w) : ∀ (t : DT) (fuel : Nat) (listed : Array Bool) (seen : List Nat) {G : Gh} {a : Act} {w : World} {env : Env} {H : Heap},
    okTree ops fuel listed seen t = true → Sim G a w env H → n0.n ≤ H.length → cx.ok G w → WT realz (reals P cx rnd n0) tab D all K t env H → (∀ G' a' w' env' H', Ext n0 G w G' w' → Sim G' a' w' env' H' → K env' H' → Q .normal a' w') → (match t with
      | .done | .take _ _ => wpAnyIn (Fw rnd) 0 P .any ops Q fuel listed a w
      | _ => 0 < fuel ∧ Region.ready .any ops listed ≠ [] ∧ ∀ i ∈ Region.ready .any ops listed, seen.contains i = true ∨ wpOpIn (Fw rnd) 0 P ops Q i (wpAnyIn (Fw rnd) 0 P .any ops Q (fuel - 1) (listed.setIfInBounds i true)) a w)
  | .done, fuel, listed, seen, G, a, w, env, H, ht, s, hn, hc, h, hK => by
    simp only
    have hr : Region.ready .any ops listed = [] := by cases fuel <;> simpa [okTree, okT] using ht
    exact wpAnyIn_done hr (hK G a w env H (Ext.refl _ _ _) s h) fuel
  | .stop, fuel, listed, seen, G, a, w, env, H, ht, s, hn, hc, h, hK => by
    simp only
    cases fuel with
    | zero => simp [okTree, okT] at ht
    | succ fuel =>
      simp only [okTree, okT, Bool.and_eq_true, List.all_eq_true] at ht
      refine ⟨Nat.succ_pos _, fun e => by rw [e] at ht; simp at ht, fun i hi => .inl (ht.2 i hi)⟩
  | .take i t, fuel, listed, seen, G, a, w, env, H, ht, s, hn, hc, h, hK => by
    simp only
    cases fuel with
    | zero => simp [okTree, okT] at ht
    | succ fuel =>
      simp only [okTree, okT, Bool.and_eq_true] at ht
      obtain ⟨⟨⟨hp, hf⟩, hr⟩, ht⟩ := ht
      cases hi : ops[i]? with
      | none => rw [hi] at hp; cases hp
      | some o =>
        rw [hi] at hp
        have hi' : all[i]? = some o := by rw [← hall, Array.getElem?_toList]; exact hi
        simp only [WT] at h
        have hko := hok o (List.mem_of_getElem? hi')
        have hsel' : ∀ v, (∀ c a w, Q (.panic c) (a.put o.dst v) w → Q (.panic c) a w) := fun v c a w hq => (hQ _ _ _ hq).elim
        have fin : ∀ v x, Rep G w v x → YieldsFenced P ops o v a → WT realz (reals P cx rnd n0) tab D all K t (put env o.dst x) H → wpAnyIn (Fw rnd) 0 P .any ops Q (fuel + 1) listed a w := fun v x rv hy hw => by
          refine wpAnyIn_take (by subst hrnd; rfl) hi hsel hf hr (hsel' v) hy ?_
          have := WT_sound hall hT hyl hok hsel hrnd hQ t fuel (listed.setIfInBounds i true) [] ht (s.put o.dst rv) hn hc hw hK
          cases t with
          | done => exact this
          | take j u => exact this
          | stop =>
            obtain ⟨h0, hne, hall⟩ := this
            obtain ⟨f, rfl⟩ : ∃ f, fuel = f + 1 := ⟨fuel - 1, by omega⟩
            exact wpAnyIn_all rfl hne (fun i hi => (hall i hi).resolve_left (by simp))
          | alt j u r =>
            obtain ⟨h0, hne, hall⟩ := this
            obtain ⟨f, rfl⟩ : ∃ f, fuel = f + 1 := ⟨fuel - 1, by omega⟩
            exact wpAnyIn_all rfl hne (fun i hi => (hall i hi).resolve_left (by simp))
        rcases guard_keep hall hi' s h with ⟨hw, h⟩ | ⟨hw, h⟩
        · obtain ⟨v, x, hrun, rv, hK'⟩ := pure_sound s hT hko hp h
          exact fin v x rv ⟨.inl ⟨hw, hrun⟩, fun w => pure_about hp w _⟩ hK'
        · exact fin undef (.tuple []) (.tuple #[] [] rfl (fun i c x h => by simp at h)) ⟨.inr ⟨hw, rfl⟩, fun w => pure_about hp w _⟩ h
  | .alt i t r, fuel, listed, seen, G, a, w, env, H, ht, s, hn, hc, h, hK => by
    simp only
    cases fuel with
    | zero => simp [okTree, okT] at ht
    | succ fuel =>
      simp only [okTree, okT, Bool.and_eq_true] at ht
      obtain ⟨⟨hi0, ht⟩, htr⟩ := ht
      simp only [WT] at h
      obtain ⟨h1, h2⟩ := h
      have first : wpOpIn (Fw rnd) 0 P ops Q i (wpAnyIn (Fw rnd) 0 P .any ops Q fuel (listed.setIfInBounds i true)) a w := by
        refine op1_sound hall hT hyl hok s hn hc h1 (fun G' a' w' env' H' he hs hw => ?_)
        have hn' : n0.n ≤ H'.length := by rw [← hs.h.n]; exact he.len (by rw [s.h.n]; exact hn)
        have := WT_sound hall hT hyl hok hsel hrnd hQ t fuel (listed.setIfInBounds i true) [] ht hs hn' (hyl.st _ _ _ _ hc he) hw (fun G'' a'' w'' env'' H'' he' hs' hK' => hK G'' a'' w'' env'' H'' (he.trans he') hs' hK')
        cases t with
        | done => exact this
        | take j u => exact this
        | stop =>
          obtain ⟨h0, hne, hall⟩ := this
          obtain ⟨f, rfl⟩ : ∃ f, fuel = f + 1 := ⟨fuel - 1, by omega⟩
          exact wpAnyIn_all rfl hne (fun i hi => (hall i hi).resolve_left (by simp))
        | alt j u r =>
          obtain ⟨h0, hne, hall⟩ := this
          obtain ⟨f, rfl⟩ : ∃ f, fuel = f + 1 := ⟨fuel - 1, by omega⟩
          exact wpAnyIn_all rfl hne (fun i hi => (hall i hi).resolve_left (by simp))
      have rest := WT_sound hall hT hyl hok hsel hrnd hQ r (fuel + 1) listed (i :: seen) htr s hn hc h2 hK
      have join : (0 < fuel + 1 ∧ Region.ready .any ops listed ≠ [] ∧ ∀ j ∈ Region.ready .any ops listed, (i :: seen).contains j = true ∨ wpOpIn (Fw rnd) 0 P ops Q j (wpAnyIn (Fw rnd) 0 P .any ops Q (fuel + 1 - 1) (listed.setIfInBounds j true)) a w) →
          0 < fuel + 1 ∧ Region.ready .any ops listed ≠ [] ∧ ∀ j ∈ Region.ready .any ops listed, seen.contains j = true ∨ wpOpIn (Fw rnd) 0 P ops Q j (wpAnyIn (Fw rnd) 0 P .any ops Q (fuel + 1 - 1) (listed.setIfInBounds j true)) a w := fun ⟨h0, hne, hj⟩ => by
        refine ⟨h0, hne, fun j hjr => ?_⟩
        rcases hj j hjr with h | h
        · rw [List.contains_cons] at h
          rcases Bool.or_eq_true_iff.1 h with h | h
          · have : j = i := by simpa using h
            subst this
            exact .inr first
          · exact .inl h
        · exact .inr h
      cases r with
      | done => cases hi0
      | take j u => cases hi0
      | stop => exact join rest
      | alt j u r => exact join rest

theorem relX.trans {G0 : Gh} {w0 : World} {Q : Post} {e : Exit} (h : relX n0 G w Q e a w') (he : Ext n0 G0 w0 G w) : relX n0 G0 w0 Q e a w' := by
  obtain ⟨x, G', env', H', hx, he', hs, hq⟩ := h
  exact ⟨x, G', env', H', hx, he.trans he', hs, hq⟩

theorem relX.of {Q : Post} {e : Exit} {x : X} (hx : xRel G w e x) (s : Sim G a w env H) (h : Q x env H) : relX n0 G w Q e a w := ⟨x, G, env, H, hx, Ext.refl _ _ _, s, h⟩

theorem relX.of' {G0 : Gh} {w0 : World} {Q : Post} {e : Exit} {x : X} (he : Ext n0 G0 w0 G w) (hx : xRel G w e x) (s : Sim G a w env H) (h : Q x env H) : relX n0 G0 w0 Q e a w := ⟨x, G, env, H, hx, he, s, h⟩

theorem T.mono {c : Code} {Q Q' : Post} (h : T P cx rnd n0 c Q env H) (hq : ∀ x env H, Q x env H → Q' x env H) : T P cx rnd n0 c Q' env H := fun G a w hc s =>
  wpIn_mono (h G a w hc s) (fun _ _ _ ⟨x, G', env', H', hx, he, hs, hq'⟩ => ⟨x, G', env', H', hx, he, hs, hq _ _ _ hq'⟩)

theorem W_sound (hT : ∀ t, TIok P t (tab t)) (hyl : cx.Ok n0) : ∀ (c : Code) (Q : Post) (env : Env) (H : Heap), okCode tr c = true → n0.n ≤ H.length → W realz (reals P cx rnd n0) tab D tr c Q env H → T P cx rnd n0 c Q env H
  | .skip, Q, env, H, _, _, h => fun G a w _ s => wpIn_skip (relX.of (x := .norm) trivial s h)
  | .ret, Q, env, H, _, _, h => fun G a w _ s => wpIn_ret (relX.of (x := .ret) trivial s h)
  | .exit i, Q, env, H, _, _, h => fun G a w _ s => wpIn_exit (relX.of (x := .exit i) rfl s h)
  | .region id ops draw, Q, env, H, hok, hn, h => fun G a w hc s => by
    simp only [okCode, Bool.and_eq_true, List.all_eq_true] at hok
    simp only [W] at h
    cases draw with
    | false => exact wpIn_region (WI_sound rfl hT hyl hok.1 _ s hn hc (by simpa using h) (fun G' a' w' env' H' he hs hK => relX.of' (x := .norm) he trivial hs hK))
    | true =>
      obtain ⟨⟨hr, hm⟩, h⟩ := h
      have hok2 : Region.noSelect ops = true ∧ okTree ops ops.size (Array.replicate ops.size false) [] (tr id) = true := by simpa using hok.2
      have md := More.drew w
      obtain ⟨sh, le⟩ := s.h.more md
      have s' : Sim G a w.drew env H := s.of_le sh le rfl (fun D hD => rfl)
      have he : Ext n0 G w G w.drew := Ext.of_more md s.h (fun _ h => h) (fun _ _ => rfl) rfl (fun _ _ => rfl)
      have key := WT_sound (P := P) (tab := tab) (D := D) (rnd := rnd) (ops := ops) rfl hT hyl hok.1 hok2.1 (K := Q .norm) (Q := fun e a w' => e = .normal ∧ relX n0 G w Q .normal a w') hr (fun c a w hq => by cases hq.1) (tr id) ops.size (Array.replicate ops.size false) [] hok2.2 s' hn (hyl.st _ _ _ _ hc he) h
        (fun G' a' w' env' H' he' hs hK => ⟨rfl, relX.of' (x := .norm) (he.trans he') trivial hs hK⟩)
      have any : wpAnyIn (Fw rnd) 0 P .any ops (fun e a w' => e = .normal ∧ relX n0 G w Q .normal a w') ops.size (Array.replicate ops.size false) a w.drew := by
        cases ht : tr id with
        | done => rw [ht] at key; exact key
        | take j u => rw [ht] at key; exact key
        | stop =>
          rw [ht] at key
          obtain ⟨h0, hne, hall⟩ := key
          obtain ⟨f, hf⟩ : ∃ f, ops.size = f + 1 := ⟨ops.size - 1, by omega⟩
          rw [hf] at hall hne ⊢
          exact wpAnyIn_all rfl hne (fun i hi => (hall i hi).resolve_left (by simp))
        | alt j u r =>
          rw [ht] at key
          obtain ⟨h0, hne, hall⟩ := key
          obtain ⟨f, hf⟩ : ∃ f, ops.size = f + 1 := ⟨ops.size - 1, by omega⟩
          rw [hf] at hall hne ⊢
          exact wpAnyIn_all rfl hne (fun i hi => (hall i hi).resolve_left (by simp))
      exact wpIn_mono (wpIn_region_any hm any) (fun e a' w' hq => by obtain ⟨rfl, hq⟩ := hq; exact hq)
  | .seq x y, Q, env, H, hok, hn, h => fun G a w hc s => by
    simp only [okCode, Bool.and_eq_true] at hok
    simp only [W] at h
    refine wpIn_seq (wpIn_mono (W_sound hT hyl x _ env H hok.1 hn h G a w hc s) (fun e a' w' hq => ?_))
    obtain ⟨xx, G', env', H', hx, he, hs, hq⟩ := hq
    have hn' : n0.n ≤ H'.length := by rw [← hs.h.n]; exact he.len (by rw [s.h.n]; exact hn)
    cases xx with
    | norm =>
      cases e <;> try exact hx.elim
      exact wpIn_mono (W_sound hT hyl y _ env' H' hok.2 hn' hq G' a' w' (hyl.st _ _ _ _ hc he) hs) (fun e a w h => h.trans he)
    | exit i =>
      cases e <;> try exact hx.elim
      exact relX.of' (x := .exit i) he hx hs hq
    | ret =>
      cases e <;> try exact hx.elim
      exact relX.of' (x := .ret) he hx hs hq
    | pan v =>
      cases e <;> try exact hx.elim
      exact relX.of' (x := .pan v) he hx hs hq
  | .cond c x y, Q, env, H, hok, hn, h => fun G a w hc s => by
    simp only [okCode, Bool.and_eq_true] at hok
    simp only [W] at h
    have rc := rep_opd s c hok.1.1
    split at h
    case h_2 => exact h.elim
    rename_i t ht
    rw [ht] at rc
    cases t with
    | true => exact wpIn_cond_true rc.bool_inv (W_sound hT hyl x _ env H hok.1.2 hn h G a w hc s)
    | false => exact wpIn_cond_false rc.bool_inv (W_sound hT hyl y _ env H hok.2 hn h G a w hc s)
  | .block id b, Q, env, H, hok, hn, h => fun G a w hc s => by
    simp only [W] at h
    refine wpIn_block (wpIn_mono (W_sound hT hyl b _ env H hok hn h G a w hc s) (fun e a' w' hq => ?_))
    obtain ⟨xx, G', env', H', hx, he, hs, hq⟩ := hq
    cases xx with
    | norm =>
      cases e <;> try exact hx.elim
      exact relX.of' (x := .norm) he trivial hs hq
    | exit i =>
      cases e <;> try exact hx.elim
      rename_i j
      have hij : j = i := hx
      subst hij
      simp only at hq
      unfold Exit.inBlock
      cases hb : Nat.beq j id with
      | true =>
        rw [hb] at hq
        have e := Nat.eq_of_beq_eq_true hb
        subst e
        simp only [if_true]
        exact relX.of' (x := .norm) he trivial hs hq
      | false =>
        rw [hb] at hq
        have e : ¬ j = id := fun e => by subst e; rw [Nat.beq_refl] at hb; cases hb
        simp only [if_neg e]
        exact relX.of' (x := .exit j) he rfl hs hq
    | ret =>
      cases e <;> try exact hx.elim
      exact relX.of' (x := .ret) he hx hs hq
    | pan v =>
      cases e <;> try exact hx.elim
      exact relX.of' (x := .pan v) he hx hs hq
  | .loop _, _, _, _, _, _, h => h
  | .rangeFunc _ _ _ _, _, _, _, _, _, h => h
  | .scope _, _, _, _, _, _, h => h
  | .label _, _, _, _, _, _, h => h
  | .goto _, _, _, _, _, _, h => h
  | .refuse _, _, _, _, _, _, h => h
end
end Go.Ab

/- Contracts at greater heaps: what a function does not see stays. -/
namespace Go.Ab

mutual
def renV (τ : Nat → Nat) : V → V
  | .ref k n lo len => .ref (τ k) n lo len
  | .pe k n i off => .pe (τ k) n i off
  | .ptr k off => .ptr (τ k) off
  | .mp k => .mp (τ k)
  | .itr k => .itr (τ k)
  | .agg l => .agg (renL τ l)
  | .tuple l => .tuple (renL τ l)
  | .fn f a b => .fn f (renL τ a) (renL τ b)
  | .iface t v => .iface t (renV τ v)
  | v => v
def renL (τ : Nat → Nat) : List V → List V
  | [] => []
  | x :: xs => renV τ x :: renL τ xs
end

mutual
def allV (φ : Ar) : V → Bool
  | .ref k _ _ _ | .pe k _ _ _ | .ptr k _ | .mp k | .itr k => φ k
  | .agg l | .tuple l => allL φ l
  | .fn _ a b => bif allL φ a then allL φ b else false
  | .iface _ v => allV φ v
  | _ => true
def allL (φ : Ar) : List V → Bool
  | [] => true
  | x :: xs => bif allV φ x then allL φ xs else false
end

def renB (τ : Nat → Nat) : Blk → Blk
  | .cells l => .cells (renL τ l)
  | .iter r m es rem cur => .iter (τ r) m es rem cur
  | b => b

def allB (φ : Ar) : Blk → Bool
  | .cells l => allL φ l
  | .iter r _ _ _ _ => φ r
  | _ => true

def renO (τ : Nat → Nat) : Out → Out
  | .ret v => .ret (renV τ v)
  | .pan v => .pan (renV τ v)

theorem renL_eq (τ : Nat → Nat) (l : List V) : renL τ l = l.map (renV τ) := by
  induction l with
  | nil => simp [renL]
  | cons x xs ih => simp [renL, ih]

theorem allL_mem {φ : Ar} : ∀ {l : List V}, allL φ l = true → ∀ x ∈ l, allV φ x = true
  | [], _, x, h => by cases h
  | y :: ys, h, x, hx => by
    simp only [allL] at h
    cases hy : allV φ y with
    | false => rw [hy] at h; cases h
    | true =>
      rw [hy] at h
      rcases List.mem_cons.1 hx with rfl | hx
      · exact hy
      · exact allL_mem h x hx

theorem renV_flat {τ : Nat → Nat} {x : V} (h : x.flat = true) : renV τ x = x := by
  cases x <;> first | rfl | (simp [V.flat] at h) | simp [renV]

theorem renL_flat {τ : Nat → Nat} {l : List V} (h : ∀ y ∈ l, V.flat y = true) : renL τ l = l := by
  rw [renL_eq]
  conv => rhs; rw [← List.map_id l]
  exact List.map_congr_left fun x hx => renV_flat (h x hx)

structure RenOk (φ : Ar) (τ : Nat → Nat) (G G' : Gh) : Prop where
  prot : ∀ b, G.prot b → G'.prot b
  yl : G'.yl = G.yl
  lt : ∀ k, φ k = true → k < G.n → τ k < G'.n
  blk : ∀ k, φ k = true → k < G.n → G'.blk (τ k) = G.blk k
  arv : ∀ k, φ k = true → k < G.n → G'.arv (τ k) = G.arv k

section
variable {P : Program} {cx : Cx} {G G' : Gh} {w w' : World} {H : Heap} {φ : Ar} {τ : Nat → Nat}

theorem Rep.ren (h : RenOk φ τ G G') {v : Value} {x : V} (r : Rep G w v x) (hx : allV φ x = true ∨ ∀ k, φ k = true) : Rep G' w v (renV τ x) := by
  induction r with
  | und v => simp only [renV]; exact .und v
  | bool b => simp only [renV]; exact .bool b
  | int k n h => simp only [renV]; exact .int k n h
  | str s => simp only [renV]; exact .str s
  | agg cs l hn _ ih =>
    simp only [renV, renL_eq]
    refine .agg cs _ (by simpa using hn) (fun i c x hc hx' => ?_)
    simp only [List.getElem?_map, Option.map_eq_some_iff] at hx'
    obtain ⟨y, hy, rfl⟩ := hx'
    exact ih i c y hc hy (hx.imp (fun h => allL_mem (by simpa [allV] using h) y (List.mem_of_getElem? hy)) id)
  | tuple cs l hn _ ih =>
    simp only [renV, renL_eq]
    refine .tuple cs _ (by simpa using hn) (fun i c x hc hx' => ?_)
    simp only [List.getElem?_map, Option.map_eq_some_iff] at hx'
    obtain ⟨y, hy, rfl⟩ := hx'
    exact ih i c y hc hy (hx.imp (fun h => allL_mem (by simpa [allV] using h) y (List.mem_of_getElem? hy)) id)
  | nils => simp only [renV]; exact .nils
  | lit n ess fl ad cap f hlen hm hf hnone hp hx' hfl hc hr ih =>
    simp only [renV]
    exact .lit n ess fl ad cap f hlen hm hf hnone (fun p hp' h0 => ⟨h.prot _ (hp p hp' h0).1, (hp p hp' h0).2⟩) hx' hfl hc
      (fun j y hy => by
        have hf := hfl y (List.mem_of_getElem? hy)
        have := ih j y hy (.inl (by cases y <;> first | rfl | (simp [V.flat] at hf) | simp [allV]))
        rwa [renV_flat hf] at this)
  | sl α d n enc fl xs v _ ih => simp only [renV] at ih ⊢; exact .sl α d n enc fl xs v (ih (.inl (by simp [allV])))
  | pp cs p f hp hs hfl hc _ ih =>
    simp only [renV]
    exact .pp cs p f (h.prot _ hp) hs hfl hc
      (fun j y hy => by
        have hf := hfl y (List.mem_of_getElem? hy)
        have := ih j y hy (.inl (by cases y <;> first | rfl | (simp [V.flat] at hf) | simp [allV]))
        rwa [renV_flat hf] at this)
  | ref k n lo len v hk h' =>
    have hφ : φ k = true := hx.elim (fun h => by simpa [allV] using h) (fun h => h k)
    simp only [renV]; exact .ref _ n lo len v (h.lt k hφ hk) (by rw [h.arv k hφ hk]; exact h')
  | pe k n i off v hk h' =>
    have hφ : φ k = true := hx.elim (fun h => by simpa [allV] using h) (fun h => h k)
    simp only [renV]; exact .pe _ n i off v (h.lt k hφ hk) (by rw [h.arv k hφ hk]; exact h')
  | ptr k off hk =>
    have hφ : φ k = true := hx.elim (fun h => by simpa [allV] using h) (fun h => h k)
    simp only [renV]; have := Rep.ptr (G := G') (w := w) (τ k) off (h.lt k hφ hk); rwa [h.blk k hφ hk] at this
  | nilp => simp only [renV]; exact .nilp
  | mp k hk =>
    have hφ : φ k = true := hx.elim (fun h => by simpa [allV] using h) (fun h => h k)
    simp only [renV]; have := Rep.mp (G := G') (w := w) (τ k) (h.lt k hφ hk); rwa [h.blk k hφ hk] at this
  | nilm => simp only [renV]; exact .nilm
  | fn f fs cs a b h1 h2 _ _ iha ihb =>
    have hab : (allL φ a = true ∧ allL φ b = true) ∨ ∀ k, φ k = true := hx.imp (fun h => by
      simp only [allV] at h
      cases ha : allL φ a with
      | false => rw [ha] at h; cases h
      | true => rw [ha] at h; exact ⟨rfl, h⟩) id
    simp only [renV, renL_eq]
    refine .fn f fs cs _ _ (by simpa using h1) (by simpa using h2) (fun i c x hc hx' => ?_) (fun i c x hc hx' => ?_)
    · simp only [List.getElem?_map, Option.map_eq_some_iff] at hx'
      obtain ⟨y, hy, rfl⟩ := hx'
      exact iha i c y hc hy (hab.imp (fun h => allL_mem h.1 y (List.mem_of_getElem? hy)) id)
    · simp only [List.getElem?_map, Option.map_eq_some_iff] at hx'
      obtain ⟨y, hy, rfl⟩ := hx'
      exact ihb i c y hc hy (hab.imp (fun h => allL_mem h.2 y (List.mem_of_getElem? hy)) id)
  | nilf => simp only [renV]; exact .nilf
  | yld => simp only [renV]; have := Rep.yld (G := G') (w := w); rwa [h.yl] at this
  | iface t u x _ ih => simp only [renV]; exact .iface t u _ (ih (hx.imp (fun h => by simpa [allV] using h) id))
  | nili => simp only [renV]; exact .nili
  | itr k hk =>
    have hφ : φ k = true := hx.elim (fun h => by simpa [allV] using h) (fun h => h k)
    simp only [renV]; have := Rep.itr (G := G') (w := w) (τ k) (h.lt k hφ hk); rwa [h.blk k hφ hk] at this

theorem RepL.ren (h : RenOk φ τ G G') {vs : List Value} {l : List V} (r : RepL G w vs l) (hx : allL φ l = true ∨ ∀ k, φ k = true) : RepL G' w vs (renL τ l) := by
  refine ⟨by rw [renL_eq]; simpa using r.1, fun i c x hc hx' => ?_⟩
  rw [renL_eq] at hx'
  simp only [List.getElem?_map, Option.map_eq_some_iff] at hx'
  obtain ⟨y, hy, rfl⟩ := hx'
  exact (r.2 i c y hc hy).ren h (hx.imp (fun h => allL_mem h y (List.mem_of_getElem? hy)) id)

theorem RepL.renFlat (h : RenOk φ τ G G') {vs : List Value} {l : List V} (r : RepL G w vs l) (hf : ∀ y ∈ l, V.flat y = true) : RepL G' w vs l := by
  refine ⟨r.1, fun i c x hc hx' => ?_⟩
  have hf' := hf x (List.mem_of_getElem? hx')
  have := (r.2 i c x hc hx').ren h (.inl (by cases x <;> first | rfl | (simp [V.flat] at hf') | simp [allV]))
  rwa [renV_flat hf'] at this

theorem flat_all {x : V} (hf : x.flat = true) : allV φ x = true := by cases x <;> first | rfl | (simp [V.flat] at hf) | simp [allV]

theorem RepB.ren (h : RenOk φ τ G G') {k : Nat} {b : Blk} (r : RepB G w k b) (hk : k < G.n) (hφ : φ k = true) (hx : allB φ b = true ∨ ∀ k, φ k = true) : RepB G' w (τ k) (renB τ b) := by
  have hb := h.blk k hφ hk
  cases b with
  | dead => trivial
  | cells l =>
    obtain ⟨cs, t, hh, rr⟩ := r
    exact ⟨cs, t, by rw [hb]; exact hh, rr.ren h hx⟩
  | arr e el xs =>
    obtain ⟨hel, vs, hown, rr⟩ := r
    refine ⟨hel, vs, by rw [h.arv k hφ hk]; exact hown, rr.renFlat h (fun y hy => ?_)⟩
    obtain ⟨x, _, hx⟩ := List.mem_flatMap.1 hy
    exact hel.flat x y hx
  | map m es =>
    obtain ⟨hp, ents, clock, hh, hsz, hr, hc, hd, hn⟩ := r
    refine ⟨hp, ents, clock, by rw [hb]; exact hh, hsz, fun i e p he hpp => ?_, hc, hd, hn⟩
    have h1 := (hr i e p he hpp).1.ren h (.inl (flat_all (hp.key _)))
    have h2 := (hr i e p he hpp).2.ren h (.inl (flat_all (hp.val _)))
    rw [renV_flat (hp.key _)] at h1; rw [renV_flat (hp.val _)] at h2
    exact ⟨h1, h2⟩
  | iter r0 m es rem cur =>
    obtain ⟨hp, since, seen, stepped, hh, ⟨hr, hrs⟩, hi⟩ := r
    have hφ0 : φ r0 = true := hx.elim (fun h => by simpa [allB] using h) (fun h => h r0)
    have hb0 := h.blk r0 hφ0 hr
    exact ⟨hp, since, seen, stepped, by rw [hb, hb0]; exact hh, ⟨h.lt r0 hφ0 hr, by rw [hb0]; exact hrs⟩, fun ents clock hm => hi ents clock (by rw [hb0] at hm; exact hm)⟩

theorem ownOf_ren (h : RenOk φ τ G G') {k : Nat} {b : Blk} (hk : k < G.n) (hφ : φ k = true) : ownOf G' (τ k) (renB τ b) = ownOf G k b := by
  cases b <;> simp [ownOf, renB, h.blk k hφ hk, h.arv k hφ hk]
end
end Go.Ab

/- Contracts at greater heaps: the theorem. -/
namespace Go.Ab

def ixo : List Nat → Nat → Nat
  | [], _ => 0
  | s :: σ, k => bif Nat.beq s k then 0 else ixo σ k + 1

def memo : List Nat → Nat → Bool
  | [], _ => false
  | s :: σ, k => bif Nat.beq s k then true else memo σ k

def nthN : List Nat → Nat → Nat
  | [], _ => 0
  | s :: _, 0 => s
  | _ :: σ, i + 1 => nthN σ i

/-- Where block i of the small heap lies in the great one; new blocks lie behind. -/
def outo (σ : List Nat) (n : Nat) (i : Nat) : Nat := bif Nat.blt i σ.length then nthN σ i else n + (i - σ.length)

def getB : Heap → Nat → Blk
  | [], _ => .dead
  | b :: _, 0 => b
  | _ :: H, k + 1 => getB H k

def smallH (σ : List Nat) (H : Heap) : List Nat → Heap
  | [] => []
  | k :: ks => renB (ixo σ) (getB H k) :: smallH σ H ks

def frB (p : Ar) : Blk → Blk
  | .iter _ _ _ _ _ => .dead
  | b => killB p b

def mergeA (σ : List Nat) (p : Ar) (out : Nat → Nat) (h' : Heap) : Nat → Heap → Heap
  | _, [] => []
  | k, b :: bs => (bif memo σ k then renB out (getB h' (ixo σ k)) else frB p b) :: mergeA σ p out h' (k + 1) bs

def dropB : Nat → Heap → Heap
  | 0, H => H
  | _ + 1, [] => []
  | n + 1, _ :: H => dropB n H

def mapB (τ : Nat → Nat) : Heap → Heap
  | [] => []
  | b :: H => renB τ b :: mapB τ H

def merge (σ : List Nat) (p : Ar) (H h' : Heap) : Heap := mergeA σ p (outo σ H.length) h' 0 H ++ mapB (outo σ H.length) (dropB σ.length h')

def pullA (σ : List Nat) (p0 : Ar) : Ar := fun k => bif memo σ k then p0 (ixo σ k) else false

def okAll (φ : Ar) (H : Heap) : List Nat → Bool
  | [] => true
  | k :: ks => bif Nat.blt k H.length then (bif allB φ (getB H k) then okAll φ H ks else false) else false

def nodupB : List Nat → Bool
  | [] => true
  | k :: ks => bif memo ks k then false else nodupB ks

def okFrame (σ : List Nat) (args : List V) (H : Heap) : Bool := bif nodupB σ then (bif okAll (memo σ) H σ then allL (memo σ) args else false) else false

theorem memo_iff {σ : List Nat} {k : Nat} : memo σ k = true ↔ k ∈ σ := by
  induction σ with
  | nil => simp [memo]
  | cons s σ ih =>
    simp only [memo, List.mem_cons]
    cases h : Nat.beq s k with
    | true => have := Nat.eq_of_beq_eq_true h; simp [this]
    | false =>
      have hne : k ≠ s := fun e => by subst e; rw [Nat.beq_refl] at h; cases h
      simp [ih, hne]

theorem ixo_lt {σ : List Nat} {k : Nat} (h : k ∈ σ) : ixo σ k < σ.length ∧ nthN σ (ixo σ k) = k := by
  induction σ with
  | nil => cases h
  | cons s σ ih =>
    simp only [ixo]
    cases hb : Nat.beq s k with
    | true => have := Nat.eq_of_beq_eq_true hb; simp [this, nthN]
    | false =>
      have hne : k ≠ s := fun e => by subst e; rw [Nat.beq_refl] at hb; cases hb
      obtain ⟨h1, h2⟩ := ih ((List.mem_cons.1 h).resolve_left hne)
      simp [nthN, h1, h2]

theorem nodupB_spec : ∀ {σ : List Nat}, nodupB σ = true → σ.Nodup
  | [], _ => List.nodup_nil
  | k :: ks, h => by
    simp only [nodupB] at h
    cases hm : memo ks k with
    | true => rw [hm] at h; cases h
    | false =>
      rw [hm] at h
      exact List.nodup_cons.2 ⟨fun hk => (by rw [memo_iff.2 hk] at hm; cases hm), nodupB_spec h⟩

theorem nth_mem : ∀ {σ : List Nat} {i : Nat}, i < σ.length → nthN σ i ∈ σ
  | s :: σ, 0, _ => by simp [nthN]
  | s :: σ, i + 1, h => List.mem_cons_of_mem _ (nth_mem (σ := σ) (by simpa using h))

theorem ixo_nth : ∀ {σ : List Nat} {i : Nat}, σ.Nodup → i < σ.length → ixo σ (nthN σ i) = i
  | s :: σ, 0, _, _ => by simp [nthN, ixo]
  | s :: σ, i + 1, hn, h => by
    have hm : nthN σ i ∈ σ := nth_mem (by simpa using h)
    have hne : s ≠ nthN σ i := fun e => (List.nodup_cons.1 hn).1 (e ▸ hm)
    have hb : Nat.beq s (nthN σ i) = false := Bool.eq_false_iff.2 fun h => hne (Nat.eq_of_beq_eq_true h)
    simp only [nthN, ixo, hb, cond_false]
    rw [ixo_nth (List.nodup_cons.1 hn).2 (by simpa using h)]

theorem getB_eq : ∀ {H : Heap} {k : Nat} {b : Blk}, H[k]? = some b → getB H k = b
  | b :: _, 0, _, h => by simpa [getB] using h
  | _ :: H, k + 1, _, h => by simp only [getB]; exact getB_eq (by simpa using h)

theorem getB_some {H : Heap} {k : Nat} (h : k < H.length) : H[k]? = some (getB H k) := by
  rw [getB_eq (List.getElem?_eq_getElem h)]
  exact List.getElem?_eq_getElem h

theorem smallH_get {σ : List Nat} {H : Heap} : ∀ {ks : List Nat} {i : Nat}, i < ks.length → (smallH σ H ks)[i]? = some (renB (ixo σ) (getB H (nthN ks i)))
  | k :: ks, 0, _ => by simp [smallH, nthN]
  | k :: ks, i + 1, h => by simp only [smallH, nthN, List.getElem?_cons_succ]; exact smallH_get (by simpa using h)

theorem smallH_len {σ : List Nat} {H : Heap} : ∀ {ks : List Nat}, (smallH σ H ks).length = ks.length
  | [] => rfl
  | k :: ks => by simp [smallH, smallH_len (ks := ks)]

theorem mergeA_get {σ : List Nat} {p : Ar} {out : Nat → Nat} {h' : Heap} : ∀ {H : Heap} {j k : Nat} {b : Blk}, H[k]? = some b →
    (mergeA σ p out h' j H)[k]? = some (bif memo σ (j + k) then renB out (getB h' (ixo σ (j + k))) else frB p b)
  | b :: bs, j, 0, b', h => by simp at h; subst h; simp [mergeA]
  | b :: bs, j, k + 1, b', h => by
    simp only [mergeA, List.getElem?_cons_succ]
    rw [mergeA_get (H := bs) (j := j + 1) (by simpa using h)]
    have : j + 1 + k = j + (k + 1) := by omega
    rw [this]

theorem mergeA_len {σ : List Nat} {p : Ar} {out : Nat → Nat} {h' : Heap} : ∀ {H : Heap} {j : Nat}, (mergeA σ p out h' j H).length = H.length
  | [], _ => rfl
  | b :: bs, j => by simp [mergeA, mergeA_len (H := bs)]

theorem dropB_eq : ∀ {n : Nat} {H : Heap}, dropB n H = H.drop n
  | 0, H => by simp [dropB]
  | n + 1, [] => by simp [dropB]
  | n + 1, b :: H => by simp [dropB, dropB_eq]

theorem mapB_eq {τ : Nat → Nat} : ∀ {H : Heap}, mapB τ H = H.map (renB τ)
  | [] => rfl
  | b :: H => by simp [mapB, mapB_eq]

theorem okAll_spec {φ : Ar} {H : Heap} : ∀ {ks : List Nat}, okAll φ H ks = true → ∀ k ∈ ks, k < H.length ∧ allB φ (getB H k) = true
  | [], _, k, hk => by cases hk
  | j :: ks, h, k, hk => by
    simp only [okAll] at h
    cases h1 : Nat.blt j H.length with
    | false => rw [h1] at h; cases h
    | true =>
      rw [h1] at h
      cases h2 : allB φ (getB H j) with
      | false => rw [h2] at h; cases h
      | true =>
        rw [h2] at h
        rcases List.mem_cons.1 hk with rfl | hk
        · exact ⟨Nat.le_of_ble_eq_true h1, h2⟩
        · exact okAll_spec h k hk

theorem okFrame_spec {σ : List Nat} {args : List V} {H : Heap} (h : okFrame σ args H = true) : σ.Nodup ∧ (∀ k ∈ σ, k < H.length ∧ allB (memo σ) (getB H k) = true) ∧ allL (memo σ) args = true := by
  unfold okFrame at h
  cases h1 : nodupB σ with
  | false => rw [h1] at h; cases h
  | true =>
    rw [h1] at h
    cases h2 : okAll (memo σ) H σ with
    | false => rw [h2] at h; cases h
    | true =>
      rw [h2] at h
      exact ⟨nodupB_spec h1, okAll_spec h2, h⟩

section
variable {P : Program} {cx : Cx} {G G' : Gh} {w w' : World} {H : Heap} {φ : Ar} {τ : Nat → Nat}

/-- The ghost of the small heap. -/
def Gh.small (G : Gh) (σ : List Nat) (H : Heap) : Gh :=
  { prot := G.prot, n := σ.length, blk := fun i => G.blk (nthN σ i), arv := fun i => G.arv (nthN σ i), yl := G.yl, marks := [],
    fr := fun b => G.fr b ∨ ∃ k bl, H[k]? = some bl ∧ k ∉ σ ∧ ownOf G k bl = some b }

theorem small_ok (σ : List Nat) (H : Heap) : RenOk (memo σ) (ixo σ) G (G.small σ H) :=
  ⟨fun _ h => h, rfl, fun k hk _ => (ixo_lt (memo_iff.1 hk)).1, fun k hk _ => by show G.blk (nthN σ (ixo σ k)) = _; rw [(ixo_lt (memo_iff.1 hk)).2],
   fun k hk _ => by show G.arv (nthN σ (ixo σ k)) = _; rw [(ixo_lt (memo_iff.1 hk)).2]⟩

theorem SimH.small (s : SimH G w H) {σ : List Nat} (hn : σ.Nodup) (hσ : ∀ k ∈ σ, k < H.length ∧ allB (memo σ) (getB H k) = true) : SimH (G.small σ H) w (smallH σ H σ) := by
  have rk := small_ok (G := G) σ H
  have hget : ∀ i b, (smallH σ H σ)[i]? = some b → i < σ.length ∧ b = renB (ixo σ) (getB H (nthN σ i)) ∧ nthN σ i ∈ σ ∧ ixo σ (nthN σ i) = i ∧ H[nthN σ i]? = some (getB H (nthN σ i)) := fun i b hb => by
    have hi : i < σ.length := by have := (List.getElem?_eq_some_iff.1 hb).1; rwa [smallH_len] at this
    rw [smallH_get hi] at hb
    cases hb
    have hm := nth_mem hi
    exact ⟨hi, rfl, hm, ixo_nth hn hi, getB_some (hσ _ hm).1⟩
  have hown : ∀ i b, (smallH σ H σ)[i]? = some b → ownOf (G.small σ H) i b = ownOf G (nthN σ i) (getB H (nthN σ i)) := fun i b hb => by
    obtain ⟨hi, rfl, hm, hix, hH⟩ := hget i b hb
    have := ownOf_ren rk (b := getB H (nthN σ i)) (s.lt hH) (memo_iff.2 hm)
    rwa [hix] at this
  refine ⟨by rw [smallH_len]; rfl, fun i b hb => ?_, fun i b q hb hq => ?_, fun i i' b b' q hb hb' hq hq' => ?_, s.plt, fun i b q hb hq hf => ?_, fun q hq => ?_⟩
  · obtain ⟨hi, rfl, hm, hix, hH⟩ := hget i b hb
    have := (s.rep _ _ hH).ren rk (s.lt hH) (memo_iff.2 hm) (.inl (hσ _ hm).2)
    rwa [hix] at this
  · rw [hown i b hb] at hq
    exact s.own _ _ q (hget i b hb).2.2.2.2 hq
  · rw [hown i b hb] at hq
    rw [hown i' b' hb'] at hq'
    have e := s.inj _ _ _ _ q (hget i b hb).2.2.2.2 (hget i' b' hb').2.2.2.2 hq hq'
    rw [← (hget i b hb).2.2.2.1, ← (hget i' b' hb').2.2.2.1, e]
  · rw [hown i b hb] at hq
    have hH := (hget i b hb).2.2.2.2
    rcases hf with hf | ⟨k, bl, hk, hkσ, ho⟩
    · exact s.fro _ _ q hH hq hf
    · have e := s.inj _ _ _ _ q hH hk hq ho
      exact hkσ (e ▸ (hget i b hb).2.2.1)
  · rcases hq with hq | ⟨k, bl, hk, hkσ, ho⟩
    · exact s.frs q hq
    · exact s.own k bl q hk ho

/-- The ghost behind the call. -/
def Gh.back (G G0 : Gh) (σ : List Nat) : Gh :=
  { prot := G0.prot, n := G.n + (G0.n - σ.length), yl := G.yl, marks := G.marks, fr := G.fr,
    blk := fun k => if k < G.n then G.blk k else G0.blk (k - G.n + σ.length),
    arv := fun k => if k < G.n then (if memo σ k then G0.arv (ixo σ k) else G.arv k) else G0.arv (k - G.n + σ.length) }

theorem CT.frame {f : Nat} {args : List V} {σ : List Nat} {p0 : Ar} {K0 K : Out → Heap → Prop} (hcx : ∀ G w, cx.ok G w → G.yl = cx.yl) (hok : okFrame σ args H = true)
    (hct : ∀ yl, CT P (Cx.plain yl) p0 f (renL (ixo σ) args) (smallH σ H σ) K0) (hK : ∀ o h', K0 o h' → K (renO (outo σ H.length) o) (merge σ (pullA σ p0) H h')) : CT P cx (pullA σ p0) f args H K := by
  obtain ⟨hnd, hσ, hargs⟩ := okFrame_spec hok
  refine ⟨(hct 0).1, fun G w vs hc s ra => ?_⟩
  have rk := small_ok (G := G) σ H
  have s0 := s.small hnd hσ
  have ra0 := ra.ren rk (.inl hargs)
  refine CallsIn.mono ((hct G.yl).2 (G.small σ H) w vs rfl s0 ra0) (fun e w' he => ?_)
  obtain ⟨G0, o, h', hend, hext, hs, hk⟩ := he
  rw [smallH_len] at hext
  have hn0 : σ.length ≤ G0.n := hext.len (Nat.le_refl _)
  have hGn := s.n
  -- what is known of the new ghost
  have hlt0 : ∀ i, i < σ.length → G0.blk i = G.blk (nthN σ i) := fun i hi => hext.blk i hi
  have outlt : ∀ i, i < σ.length → outo σ H.length i = nthN σ i := fun i hi => by
    have : Nat.blt i σ.length = true := Nat.ble_eq_true_of_le hi
    simp [outo, this]
  have outge : ∀ i, ¬ i < σ.length → outo σ H.length i = H.length + (i - σ.length) := fun i hi => by
    have : Nat.blt i σ.length = false := Bool.eq_false_iff.2 fun h => hi (Nat.le_of_ble_eq_true h)
    simp [outo, this]
  have ro : RenOk (fun _ => true) (outo σ H.length) G0 (G.back G0 σ) := by
    refine ⟨fun _ h => h, hext.yl.symm, fun k _ hk => ?_, fun k _ hk => ?_, fun k _ hk => ?_⟩
    · by_cases hi : k < σ.length
      · rw [outlt k hi]
        have := (hσ _ (nth_mem hi)).1
        show _ < G.n + _
        omega
      · rw [outge k hi]
        show _ < G.n + _
        omega
    · by_cases hi : k < σ.length
      · rw [outlt k hi]
        have := (hσ _ (nth_mem hi)).1
        have h' : nthN σ k < G.n := by omega
        show (if nthN σ k < G.n then _ else _) = _
        rw [if_pos h', hlt0 k hi]
      · rw [outge k hi]
        have h' : ¬ H.length + (k - σ.length) < G.n := by omega
        show (if H.length + (k - σ.length) < G.n then _ else _) = _
        rw [if_neg h']
        congr 1
        omega
    · by_cases hi : k < σ.length
      · rw [outlt k hi]
        have hm := nth_mem hi
        have := (hσ _ hm).1
        have h' : nthN σ k < G.n := by omega
        show (if nthN σ k < G.n then (if memo σ (nthN σ k) then _ else _) else _) = _
        rw [if_pos h', if_pos (memo_iff.2 hm), ixo_nth hnd hi]
      · rw [outge k hi]
        have h' : ¬ H.length + (k - σ.length) < G.n := by omega
        show (if H.length + (k - σ.length) < G.n then _ else _) = _
        rw [if_neg h']
        congr 1
        omega
  -- the frame
  have leK : LeK (pullA σ p0) G w (G.back G0 σ) w' := by
    refine ⟨hext.prot, fun q hq => cell_of_heap (hext.keep _ hq), Nat.le_add_right _ _, fun k hk => ?_, fun k hk hp => ?_, rfl⟩
    · show (if k < G.n then _ else _) = _
      rw [if_pos hk]
    · show (if k < G.n then (if memo σ k then _ else _) else _) = _
      rw [if_pos hk]
      cases hm : memo σ k with
      | false => rw [if_neg (by simp)]
      | true =>
        rw [if_pos rfl]
        have hix := ixo_lt (memo_iff.1 hm)
        have hp' : p0 (ixo σ k) = false := by simpa [pullA, hm] using hp
        have := hext.arv (ixo σ k) hix.1 hp'
        rw [this]
        show G.arv (nthN σ (ixo σ k)) = _
        rw [hix.2]
  have hget : ∀ k b, (merge σ (pullA σ p0) H h')[k]? = some b →
      (k ∈ σ ∧ k < H.length ∧ h'[ixo σ k]? = some (getB h' (ixo σ k)) ∧ b = renB (outo σ H.length) (getB h' (ixo σ k))) ∨
      (k ∉ σ ∧ ∃ b0, H[k]? = some b0 ∧ b = frB (pullA σ p0) b0) ∨
      (H.length ≤ k ∧ ∃ b0, h'[k - H.length + σ.length]? = some b0 ∧ b = renB (outo σ H.length) b0) := fun k b hb => by
    unfold merge at hb
    rw [List.getElem?_append, mergeA_len] at hb
    split at hb
    · rename_i hk
      rw [mergeA_get (getB_some hk)] at hb
      simp only [Nat.zero_add, Option.some.injEq] at hb
      cases hm : memo σ k with
      | true =>
        rw [hm] at hb
        have hix := ixo_lt (memo_iff.1 hm)
        exact .inl ⟨memo_iff.1 hm, hk, getB_some (by rw [← hs.n]; omega), hb.symm⟩
      | false =>
        rw [hm] at hb
        exact .inr (.inl ⟨fun h => (by rw [memo_iff.2 h] at hm; cases hm), _, getB_some hk, hb.symm⟩)
    · rename_i hk
      rw [mapB_eq, dropB_eq, List.getElem?_map, List.getElem?_drop] at hb
      simp only [Option.map_eq_some_iff] at hb
      obtain ⟨b0, hb0, rfl⟩ := hb
      refine .inr (.inr ⟨by omega, b0, ?_, rfl⟩)
      rw [Nat.add_comm]; exact hb0
  have hframe : ∀ k b0 q, k ∉ σ → H[k]? = some b0 → ownOf G k b0 = some q → (G.small σ H).fr q := fun k b0 q hkσ hk hq => .inr ⟨k, b0, hk, hkσ, hq⟩
  have ownFr : ∀ k b0 q, k ∉ σ → H[k]? = some b0 → ownOf (G.back G0 σ) k (frB (pullA σ p0) b0) = some q → ownOf G k b0 = some q := fun k b0 q hkσ hk hq => by
    have hlt := s.lt hk
    have e1 : (G.back G0 σ).blk k = G.blk k := leK.blk k hlt
    have e2 : (G.back G0 σ).arv k = G.arv k := leK.arv k hlt (by
      cases hm : memo σ k with
      | true => exact (hkσ (memo_iff.1 hm)).elim
      | false => simp [pullA, hm])
    cases b0 with
    | iter r m es rem cur => simp [frB, ownOf] at hq
    | dead => simp [frB, killB, ownOf] at hq
    | cells l => simpa [frB, killB, ownOf, e1] using hq
    | arr e el xs => simpa [frB, killB, ownOf, e2] using hq
    | map m es => simpa [frB, killB, ownOf, e1] using hq
  have ownSm : ∀ k, k ∈ σ → k < H.length → h'[ixo σ k]? = some (getB h' (ixo σ k)) → ownOf (G.back G0 σ) k (renB (outo σ H.length) (getB h' (ixo σ k))) = ownOf G0 (ixo σ k) (getB h' (ixo σ k)) := fun k hkσ _ hg => by
    have := ownOf_ren ro (b := getB h' (ixo σ k)) (hs.lt hg) rfl
    rwa [outlt _ (ixo_lt hkσ).1, (ixo_lt hkσ).2] at this
  have ownNew : ∀ k b0, H.length ≤ k → h'[k - H.length + σ.length]? = some b0 → ownOf (G.back G0 σ) k (renB (outo σ H.length) b0) = ownOf G0 (k - H.length + σ.length) b0 := fun k b0 hk hb => by
    have := ownOf_ren ro (b := b0) (hs.lt hb) rfl
    rw [outge _ (by omega)] at this
    have e : H.length + (k - H.length + σ.length - σ.length) = k := by omega
    rwa [e] at this
  have sim : SimH (G.back G0 σ) w' (merge σ (pullA σ p0) H h') := by
    refine ⟨?_, fun k b hb => ?_, fun k b q hb hq => ?_, fun k k' b b' q hb hb' hq hq' => ?_, hs.plt, fun k b q hb hq hf => ?_, fun q hq => hs.frs q (by rw [hext.fr]; exact .inl hq)⟩
    · unfold merge
      rw [List.length_append, mergeA_len, mapB_eq, List.length_map, dropB_eq, List.length_drop, ← hs.n, ← s.n]
      rfl
    · rcases hget k b hb with ⟨hkσ, hk, hg, rfl⟩ | ⟨hkσ, b0, hb0, rfl⟩ | ⟨hk, b0, hb0, rfl⟩
      · have := (hs.rep _ _ hg).ren ro (hs.lt hg) rfl (.inr fun _ => rfl)
        rwa [outlt _ (ixo_lt hkσ).1, (ixo_lt hkσ).2] at this
      · have hpk : pullA σ p0 k = false := by
          cases hm : memo σ k with
          | true => exact (hkσ (memo_iff.1 hm)).elim
          | false => simp [pullA, hm]
        have hown : ∀ q, ownOf G k b0 = some q → w'.heap[q]? = w.heap[q]? := fun q hq => hext.kfr q (hframe k b0 q hkσ hb0 hq)
        cases b0 with
        | iter r m es rem cur => trivial
        | dead => trivial
        | cells l => exact (s.rep k _ hb0).kill leK hpk hext.size (s.lt hb0) hown (fun r m es rem cur e => by cases e)
        | arr e el xs => exact (s.rep k _ hb0).kill leK hpk hext.size (s.lt hb0) hown (fun r m es rem cur e => by cases e)
        | map m es => exact (s.rep k _ hb0).kill leK hpk hext.size (s.lt hb0) hown (fun r m es rem cur e => by cases e)
      · have := (hs.rep _ _ hb0).ren ro (hs.lt hb0) rfl (.inr fun _ => rfl)
        rw [outge _ (by omega)] at this
        have e : H.length + (k - H.length + σ.length - σ.length) = k := by omega
        rwa [e] at this
    · rcases hget k b hb with ⟨hkσ, hk, hg, rfl⟩ | ⟨hkσ, b0, hb0, rfl⟩ | ⟨hk, b0, hb0, rfl⟩
      · rw [ownSm k hkσ hk hg] at hq; exact hs.own _ _ q hg hq
      · have hq' := ownFr k b0 q hkσ hb0 hq
        have := hs.frs q (by rw [hext.fr]; exact hframe k b0 q hkσ hb0 hq')
        exact this
      · rw [ownNew k b0 hk hb0] at hq; exact hs.own _ _ q hb0 hq
    · have smfr : ∀ i bl k b0, h'[i]? = some bl → ownOf G0 i bl = some q → k ∉ σ → H[k]? = some b0 → ownOf G k b0 = some q → False := fun i bl k b0 hi ho hkσ hk hok =>
        hs.fro i bl q hi ho (by rw [hext.fr]; exact hframe k b0 q hkσ hk hok)
      rcases hget k b hb with ⟨hkσ, hk, hg, rfl⟩ | ⟨hkσ, b0, hb0, rfl⟩ | ⟨hk, b0, hb0, rfl⟩ <;> rcases hget k' b' hb' with ⟨hkσ', hk', hg', rfl⟩ | ⟨hkσ', b0', hb0', rfl⟩ | ⟨hk', b0', hb0', rfl⟩
      · rw [ownSm k hkσ hk hg] at hq; rw [ownSm k' hkσ' hk' hg'] at hq'
        have := hs.inj _ _ _ _ q hg hg' hq hq'
        rw [← (ixo_lt hkσ).2, ← (ixo_lt hkσ').2, this]
      · rw [ownSm k hkσ hk hg] at hq
        exact (smfr _ _ k' b0' hg hq hkσ' hb0' (ownFr k' b0' q hkσ' hb0' hq')).elim
      · rw [ownSm k hkσ hk hg] at hq; rw [ownNew k' b0' hk' hb0'] at hq'
        have := hs.inj _ _ _ _ q hg hb0' hq hq'
        have := (ixo_lt hkσ).1
        omega
      · rw [ownSm k' hkσ' hk' hg'] at hq'
        exact (smfr _ _ k b0 hg' hq' hkσ hb0 (ownFr k b0 q hkσ hb0 hq)).elim
      · exact s.inj _ _ _ _ q hb0 hb0' (ownFr k b0 q hkσ hb0 hq) (ownFr k' b0' q hkσ' hb0' hq')
      · rw [ownNew k' b0' hk' hb0'] at hq'
        exact (smfr _ _ k b0 hb0' hq' hkσ hb0 (ownFr k b0 q hkσ hb0 hq)).elim
      · rw [ownNew k b0 hk hb0] at hq; rw [ownSm k' hkσ' hk' hg'] at hq'
        have := hs.inj _ _ _ _ q hb0 hg' hq hq'
        have := (ixo_lt hkσ').1
        omega
      · rw [ownNew k b0 hk hb0] at hq
        exact (smfr _ _ k' b0' hb0 hq hkσ' hb0' (ownFr k' b0' q hkσ' hb0' hq')).elim
      · rw [ownNew k b0 hk hb0] at hq; rw [ownNew k' b0' hk' hb0'] at hq'
        have := hs.inj _ _ _ _ q hb0 hb0' hq hq'
        omega
    · have hf0 : G0.fr q := by rw [hext.fr]; exact .inl hf
      rcases hget k b hb with ⟨hkσ, hk, hg, rfl⟩ | ⟨hkσ, b0, hb0, rfl⟩ | ⟨hk, b0, hb0, rfl⟩
      · rw [ownSm k hkσ hk hg] at hq; exact hs.fro _ _ q hg hq hf0
      · exact s.fro k b0 q hb0 (ownFr k b0 q hkσ hb0 hq) hf
      · rw [ownNew k b0 hk hb0] at hq; exact hs.fro _ _ q hb0 hq hf0
  refine ⟨G.back G0 σ, renO (outo σ H.length) o, _, ?_, ?_, sim, hK o h' hk⟩
  · cases e with
    | returned v =>
      cases o with
      | ret x => exact Rep.ren ro hend (.inr fun _ => rfl)
      | pan x => exact hend.elim
    | panicked chain =>
      cases o with
      | ret x => exact hend.elim
      | pan x =>
        obtain ⟨u, hu, hr⟩ := hend
        exact ⟨u, hu, Rep.ren ro hr (.inr fun _ => rfl)⟩
    | outgrown => cases o <;> exact hend.elim
  · exact ⟨hext.prot, hext.keep, hext.size, hext.os, hext.tape, hext.output, fun k hk => leK.blk k (by rw [s.n]; exact hk), rfl, fun k hk hp => leK.arv k (by rw [s.n]; exact hk) hp, rfl,
      fun b hb => hext.kfr b (.inl hb), fun h => Nat.le_trans h leK.n, fun _ h => .inl h⟩
end
end Go.Ab

/- Contracts out of bodies; loops; weakening. -/
namespace Go.Ab

/-- The same values, told in another way: less is said, or otherwise. -/
def Wk (n0 : Lim) (l : List V) (H : Heap) (l' : List V) (H' : Heap) : Prop :=
  ∀ (G : Gh) (w : World) (vs : List Value), SimH G w H → n0.n ≤ H.length → RepL G w vs l → ∃ G', Ext n0 G w G' w ∧ SimH G' w H' ∧ RepL G' w vs l' ∧ G'.marks = G.marks

def res1 : List V → V
  | [v] => v
  | l => .tuple l

def resK (S : Sy) (tab : Tab) : List ResultVar → Env → Heap → (List V → Prop) → Prop
  | [], _, _, K => K []
  | .tmp t :: rs, env, H, K => resK S tab rs env H fun vs => K (env.getD t .und :: vs)
  | .cell a t :: rs, env, H, K => ld S tab t H (env.getD a .und) fun v => resK S tab rs env H fun vs => K (v :: vs)

def retQ (S : Sy) (tab : Tab) (rs : List ResultVar) (R : List V → Heap → Prop) : Post := fun x env H => match x with
  | .norm => resK S tab rs env H fun vs => R vs H
  | .ret => resK S tab rs env H fun vs => R vs H
  | _ => False

section
variable {P : Program} {n0 : Lim} {cx : Cx} {rnd : Option Nat} {tab : Tab} {D : List Nat} {tr : Nat → DT} {G G' : Gh} {a : Act} {w w' : World} {env : Env} {H : Heap} {o : Oper}

theorem Wk.refl (l : List V) (H : Heap) : Wk n0 l H l H := fun G w vs s _ r => ⟨G, Ext.refl _ _ _, s, r, rfl⟩

theorem Wk.trans {l l' l'' : List V} {H H' H'' : Heap} (h : Wk n0 l H l' H') (k : Wk n0 l' H' l'' H'') : Wk n0 l H l'' H'' := fun G w vs s hn r => by
  obtain ⟨G1, e1, s1, r1, m1⟩ := h G w vs s hn r
  obtain ⟨G2, e2, s2, r2, m2⟩ := k G1 w vs s1 (by rw [← s1.n]; exact e1.len (by rw [s.n]; exact hn)) r1
  exact ⟨G2, e1.trans e2, s2, r2, m2.trans m1⟩

theorem Sim.wk {env' : Env} {H' : Heap} (s : Sim G a w env H) (hn : n0.n ≤ H.length) (h : Wk n0 env H env' H') : ∃ G', Ext n0 G w G' w ∧ Sim G' a w env' H' := by
  obtain ⟨G', e, sh, r, hm⟩ := h G w _ s.h hn s.env
  exact ⟨G', e, ⟨sh, r, by rw [hm]; exact s.marks, fun D hD => by rw [hm] at hD; exact ⟨(s.md D hD).1, e.prot D (s.md D hD).2⟩, by rw [hm]; exact s.nd⟩⟩

theorem T.wk {c : Code} {Q : Post} {env' : Env} {H' : Heap} (h : Wk n0 env H env' H') (hn : n0.n ≤ H.length) (hyl : cx.Ok n0) (t : T P cx rnd n0 c Q env' H') : T P cx rnd n0 c Q env H := fun G a w hc s => by
  obtain ⟨G', e, s'⟩ := s.wk hn h
  exact wpIn_mono (t G' a w (hyl.st _ _ _ _ hc e) s') (fun _ _ _ h => h.trans e)

theorem T_of_W (hT : ∀ t, TIok P t (tab t)) (hyl : cx.Ok n0) {c : Code} {Q : Post} (hok : okCode tr c = true) (hn : n0.n ≤ H.length)
    (h : ∀ (z : Sz) (S : Sy) (Q' : Post), z = realz → S = reals P cx rnd n0 → (∀ x env H, Q x env H → Q' x env H) → W z S tab D tr c Q' env H) : T P cx rnd n0 c Q env H :=
  W_sound hT hyl c Q env H hok hn (h realz (reals P cx rnd n0) Q rfl rfl (fun _ _ _ h => h))

theorem least (p : Nat → Prop) (h : ∃ n, p n) : ∃ n, p n ∧ ∀ m, p m → n ≤ m := by
  obtain ⟨n, hn⟩ := h
  induction n using Nat.strongRecOn with
  | _ n ih =>
    by_cases hh : ∃ m, m < n ∧ p m
    · obtain ⟨m, hm, hp⟩ := hh
      exact ih m hm hp
    · exact ⟨n, hn, fun m hm => Nat.le_of_not_lt fun hlt => hh ⟨m, hlt, hm⟩⟩

/-- **Loops.** -/
theorem T.loop {c : Code} {Q : Post} (hyl : cx.Ok n0) (I : Nat → Env → Heap → Prop) (hn : n0.n ≤ H.length) (m : Nat) (h0 : I m env H)
    (h : ∀ m env H, I m env H → n0.n ≤ H.length → T P cx rnd n0 c (fun x env' H' => match x with
      | .norm => ∃ m' env'' H'', m' < m ∧ Wk n0 env' H' env'' H'' ∧ I m' env'' H''
      | x => Q x env' H') env H) : T P cx rnd n0 (.loop c) Q env H := fun G a w hc s => by
  classical
  let p : Act → World → Nat → Prop := fun a' w' m => ∃ G' env' H', Ext n0 G w G' w' ∧ Sim G' a' w' env' H' ∧ n0.n ≤ H'.length ∧ I m env' H'
  refine wpIn_loop (fun a' w' => ∃ m, p a' w' m) (fun a' w' => if h : ∃ m, p a' w' m then (least _ h).choose else 0) ⟨m, G, env, H, Ext.refl _ _ _, s, hn, h0⟩ (fun a' w' hI => ?_)
  have hm := (least _ hI).choose_spec
  have hmu : (if h : ∃ m, p a' w' m then (least _ h).choose else 0) = (least _ hI).choose := dif_pos hI
  rw [hmu]
  generalize (least _ hI).choose = k at hm
  obtain ⟨⟨G1, env1, H1, he1, hs1, hn1, hI1⟩, _⟩ := hm
  refine wpIn_mono (h k env1 H1 hI1 hn1 G1 a' w' (hyl.st _ _ _ _ hc he1) hs1) (fun e a'' w'' hq => ?_)
  obtain ⟨x, G2, env2, H2, hx, he2, hs2, hq⟩ := hq
  have hn2 : n0.n ≤ H2.length := by rw [← hs2.h.n]; exact he2.len (by rw [hs1.h.n]; exact hn1)
  cases x with
  | norm =>
    cases e <;> try exact hx.elim
    obtain ⟨m', env3, H3, hlt, hwk, hI3⟩ := hq
    obtain ⟨G3, he3, hs3⟩ := hs2.wk hn2 hwk
    have hn3 : n0.n ≤ H3.length := by rw [← hs3.h.n]; exact he3.len (by rw [hs2.h.n]; exact hn2)
    have hp : p a'' w'' m' := ⟨G3, env3, H3, (he1.trans he2).trans he3, hs3, hn3, hI3⟩
    refine ⟨⟨m', hp⟩, ?_⟩
    have hex : ∃ m, p a'' w'' m := ⟨m', hp⟩
    rw [dif_pos hex]
    exact Nat.lt_of_le_of_lt ((least _ hex).choose_spec.2 m' hp) hlt
  | exit i =>
    cases e <;> try exact hx.elim
    exact relX.of' (x := .exit i) (he1.trans he2) hx hs2 hq
  | ret =>
    cases e <;> try exact hx.elim
    exact relX.of' (x := .ret) (he1.trans he2) hx hs2 hq
  | pan v =>
    cases e <;> try exact hx.elim
    exact relX.of' (x := .pan v) (he1.trans he2) hx hs2 hq

/-! ### A contract from a body -/
theorem ld_run {t : TypeId} {v : Value} {p : V} {K : V → Prop} (s : SimH G w H) (hT : ∀ t, TIok P t (tab t)) (rx : Rep G w v p) (h : ld (reals P cx rnd n0) tab t H p K) :
    ∃ u x, (Instr.loadAt t v).run P w = .ok u w ∧ (∃ q, v = .pointer (some q)) ∧ Rep G w u x ∧ K x := by
  simp only [ld] at h
  split at h
  · exact h.elim
  · rename_i hpos
    have hpos' : 0 < (tab t).size := Nat.le_of_ble_eq_true hpos
    obtain ⟨i, d, hi, hsz, hd, hag⟩ := (hT t).size hpos'
    split at h
    · rename_i cs hcs
      obtain ⟨q, vs, hv, hcell, r, hlen⟩ := ldC_rep s rx hcs
      have hvl : vs.length = i.size := by rw [r.1, hlen, hsz]
      cases hb : (tab t).agg with
      | true =>
        rw [hb] at h hag
        have := run_loadAt_cells (P := P) hi hd q vs hcell hvl (by rw [hag]; simp)
        rw [hag] at this
        refine ⟨.agg vs.toArray, _, by rw [hv]; simpa using this, ⟨q, hv⟩, RepL.toAgg (by simpa using r), h⟩
      | false =>
        rw [hb] at h hag
        simp only [cond_false] at h
        split at h
        · rename_i c
          have h1 : vs.length = 1 := by rw [r.1]; rfl
          have := run_loadAt_cells (P := P) hi hd q vs hcell hvl (fun _ => h1)
          rw [hag] at this
          exact ⟨vs.getD 0 undef, c, by rw [hv]; simpa using this, ⟨q, hv⟩, r.at 0, h⟩
        · exact h.elim
    · exact h.elim

def resRun (tmps : Array Value) : ResultVar → Sem Value
  | .tmp t => pure (tmps.getD t undef)
  | .cell a t => do loadVar t (← asAddr (tmps.getD a undef))

theorem res_run (hT : ∀ t, TIok P t (tab t)) {tmps : Array Value} {env : Env} (s : SimH G w H) (r : RepL G w tmps.toList env) : ∀ (rs : List ResultVar) (K : List V → Prop), resK (reals P cx rnd n0) tab rs env H K →
    ∃ vs l, (rs.mapM (resRun tmps)).run P w = .ok vs w ∧ RepL G w vs l ∧ K l
  | [], K, h => ⟨[], [], by simp, ⟨rfl, fun i c x h => by simp at h⟩, h⟩
  | .tmp t :: rs, K, h => by
    obtain ⟨vs, l, hr, rl, hk⟩ := res_run hT s r rs _ h
    refine ⟨tmps.getD t undef :: vs, env.getD t .und :: l, by simp [resRun, hr], ?_, hk⟩
    have := r.at t
    refine ⟨by simp [rl.1], fun i c x hc hx => ?_⟩
    cases i with
    | zero =>
      simp at hc hx
      subst hc; subst hx
      simpa [Array.getD_eq_getD_getElem?, List.getD_eq_getElem?_getD] using this
    | succ i => exact rl.2 i c x (by simpa using hc) (by simpa using hx)
  | .cell b t :: rs, K, h => by
    have hb := r.at b
    have hb' : Rep G w (tmps.getD b undef) (env.getD b .und) := by simpa [Array.getD_eq_getD_getElem?, List.getD_eq_getElem?_getD] using hb
    obtain ⟨u, x, hu, ⟨q, hq⟩, ru, hk⟩ := ld_run s hT hb' h
    obtain ⟨vs, l, hr, rl, hk⟩ := res_run hT s r rs _ hk
    refine ⟨u :: vs, x :: l, ?_, ?_, hk⟩
    · rw [hq] at hu
      have hu' : (loadVar t q).run P w = .ok u w := by simpa [Instr.loadAt, Instr.sureAddr] using hu
      simp [resRun, hq, asAddr, hu', hr]
    · refine ⟨by simp [rl.1], fun i c x hc hx => ?_⟩
      cases i with
      | zero => simp at hc hx; subst hc; subst hx; exact ru
      | succ i => exact rl.2 i c x (by simpa using hc) (by simpa using hx)

theorem results_run {fn : Func} {tmps : Array Value} {vs : List Value} (h : (fn.results.toList.mapM (resRun tmps)).run P w = .ok vs w) : (results fn tmps).run P w = .ok (if h : vs.toArray.size = 1 then vs.toArray[0] else .tuple vs.toArray) w := by
  have e : (fn.results.mapM (resRun tmps)).run P w = .ok vs.toArray w := by
    rw [← Array.toArray_toList (xs := fn.results)]
    rw [List.mapM_toArray]
    simp [h]
  have e2 : results fn tmps = (do let vs ← fn.results.mapM (resRun tmps); pure (if h : vs.size = 1 then vs[0] else .tuple vs)) := by
    unfold results
    congr 1
  rw [e2]
  simp [e]

theorem res1_rep {vs : List Value} {l : List V} (r : RepL G w vs l) : Rep G w (if h : vs.toArray.size = 1 then vs.toArray[0] else .tuple vs.toArray) (res1 l) := by
  match vs, l, r with
  | [], [], r => exact .tuple _ _ rfl (fun i c x h => by simp at h)
  | [v], [x], r => simpa [res1] using r.2 0 v x rfl rfl
  | v :: u :: vs, x :: y :: l, r =>
    simp only [res1]
    rw [dif_neg (by simp)]
    exact .tuple _ _ (by simpa using r.1) (fun i c z hc hz => r.2 i c z (by simpa using hc) hz)
  | [], _ :: _, r => exact absurd r.1 (by simp)
  | _ :: _, [], r => exact absurd r.1 (by simp)
  | [_], _ :: _ :: _, r => exact absurd r.1 (by simp)
  | _ :: _ :: _, [_], r => exact absurd r.1 (by simp)
end
end Go.Ab

/- Contracts out of bodies. -/
namespace Go.Ab
section
variable {P : Program} {n0 : Lim} {cx : Cx} {rnd : Option Nat} {tab : Tab} {D : List Nat} {tr : Nat → DT} {G G' : Gh} {a : Act} {w w' : World} {env : Env} {H : Heap} {o : Oper}

theorem SimH.shut (s : SimH G w H) {d : Nat} {x : Option (List Deferred)} (hp : G.prot d) (hd : w.heap[d]? = some (.deferred x)) :
    SimH G (ChangeMaps.setBlock w d (.deferred none)) H ∧ Le G w G (ChangeMaps.setBlock w d (.deferred none)) := by
  have one := One.setBlock w d (.deferred none)
  have hset : (ChangeMaps.setBlock w d (.deferred none)).heap[d]? = some (.deferred none) := setBlock_at hd
  have le : Le G w G (ChangeMaps.setBlock w d (.deferred none)) := by
    refine ⟨fun _ h => h, fun p _ => ?_, Nat.le_refl _, fun _ _ => rfl, fun _ _ => rfl, rfl⟩
    by_cases e : p.block = d
    · simp [World.cell?, e, hset, hd]
    · exact cell_of_heap (one.heap _ e)
  have hne : ∀ k b q, H[k]? = some b → ownOf G k b = some q → q ≠ d := fun k b q hk hq e => (s.own k b q hk hq).2 (e ▸ hp)
  refine ⟨⟨s.n, fun k b hk => ?_, fun k b q hk hq => by rw [one.size]; exact s.own k b q hk hq, s.inj, fun q hq => by rw [one.size]; exact s.plt q hq, s.fro, fun q hq => by rw [one.size]; exact s.frs q hq⟩, le⟩
  refine (s.rep k b hk).mono le (by rw [one.size]; exact Nat.le_refl _) (s.lt hk) (fun q hq => one.heap q (hne k b q hk hq)) (fun r m es rem cur e ents clock hm => ?_)
  have : G.blk r ≠ d := fun e' => by rw [e', hset] at hm; cases hm
  rwa [one.heap _ this] at hm

theorem run_take {d : Nat} (hd : w.heap[d]? = some (.deferred (some []))) : (Instr.takeDeferred d).run P w = .ok [] (ChangeMaps.setBlock w d (.deferred none)) := by
  simp [Instr.takeDeferred, getObj, setObj, Sem.run, hd, ChangeMaps.setBlock, Result.andThen]

/-- A frame leaves with marks. -/
theorem leaves_marks {F : Fence} {n : Nat} {fn : Func} {tmps : Array Value} {K : Out → Heap → Prop} {G0 : Gh} {w0 : World} (hT : ∀ t, TIok P t (tab t)) : ∀ (ms : List Nat) {w : World}, SimH G w H → RepL G w tmps.toList env → (∀ d ∈ ms, w.heap[d]? = some (.deferred (some [])) ∧ G.prot d) → ms.Nodup →
    (∀ d ∈ ms, ¬ G0.prot d) → Ext n0 G0 w0 G w → resK (reals P cx rnd n0) tab fn.results.toList env H (fun rs => ∃ rs' H', Wk n0 rs H rs' H' ∧ K (.ret (res1 rs')) H') → n0.n ≤ H.length → LeavesInM F n P fn tmps (callPost n0 G0 w0 K) (ms.map markOf) .returning w
  | [], w, s, r, _, _, _, he, h, hn => by
    obtain ⟨vs, l, hr, rl, rs', H', hwk, hk⟩ := res_run hT s r _ _ h
    obtain ⟨G', e', sh, r', _⟩ := hwk G w vs s hn rl
    exact ⟨_, results_run hr, G', .ret (res1 rs'), H', res1_rep r', he.trans e', sh, hk⟩
  | d :: ms, w, s, r, hm, hnd, hnp, he, h, hn => by
    obtain ⟨hd, hp⟩ := hm d (by simp)
    obtain ⟨sh, le⟩ := s.shut hp hd
    have one := One.setBlock w d (.deferred none)
    refine ⟨by simp, .inl ⟨d, _, rfl, run_take hd, ?_⟩⟩
    have hnd' := List.nodup_cons.1 hnd
    refine leaves_marks hT ms sh (r.mono le) (fun d' hd' => ?_) hnd'.2 (fun d' hd' => hnp d' (by simp [hd'])) ?_ h hn
    · have hne : d' ≠ d := fun e => hnd'.1 (e ▸ hd')
      rw [one.heap _ hne]
      exact hm d' (by simp [hd'])
    · exact ⟨he.prot, fun b hb => (one.heap b (fun e => hnp d (by simp) (e ▸ hb))).trans (he.keep b hb), by rw [one.size]; exact he.size, one.os.trans he.os, one.tape.trans he.tape, one.output.trans he.output, he.blk, he.yl, he.arv, he.fr,
        fun b hb => (one.heap b (fun e => (s.frs b (by rw [he.fr]; exact hb)).2 (e ▸ hp))).trans (he.kfr b hb), he.len, he.mks⟩

/-- **A contract out of a body.** -/
theorem CT_of_T {f : Nat} {fn : Func} {c : Code} {args : List V} {p : Ar} {K : Out → Heap → Prop} (hf : P.funcs[f]? = some fn) (hname : (fn.name == "runtime.NumGoroutine") = false) (hb : fn.body = some c) (hT : ∀ t, TIok P t (tab t)) (hyl : cx.Ok ⟨H.length, p⟩)
    (h : T P cx none ⟨H.length, p⟩ c (retQ (reals P cx rnd ⟨H.length, p⟩) tab fn.results.toList (fun rs H1 => ∃ rs' H', Wk ⟨H.length, p⟩ rs H1 rs' H' ∧ K (.ret (res1 rs')) H')) (args ++ List.replicate (fn.ntmps - args.length) .und) H) : CT P cx p f args H K := by
  refine ⟨⟨fn, hf, hname, by rw [hb]; rfl⟩, fun G w vs hc s ra => ?_⟩
  have e0 : Ext ⟨H.length, p⟩ G w (G.mk' []) w := ⟨fun _ h => h, fun _ _ => rfl, Nat.le_refl _, rfl, rfl, rfl, fun _ _ => rfl, rfl, fun _ _ _ => rfl, rfl, fun _ _ => rfl, id, fun d hd => (by cases hd)⟩
  have hlen : vs.size = args.length := by simpa using ra.1
  have s0 : Sim (G.mk' []) { tmps := vs ++ Array.replicate (fn.ntmps - vs.size) undef, defers := [] } w (args ++ List.replicate (fn.ntmps - args.length) .und) H := by
    refine ⟨s.marks [], ?_, rfl, fun d hd => (by cases hd), List.nodup_nil⟩
    have r1 : RepL (G.mk' []) w vs.toList args := ra.mono (Le.marks [])
    have r2 : RepL (G.mk' []) w (List.replicate (fn.ntmps - args.length) undef) (List.replicate (fn.ntmps - args.length) .und) :=
      ⟨by simp, fun i c x hc hx => by
        rw [List.getElem?_replicate] at hc hx
        split at hc
        · rename_i hlt
          rw [if_pos hlt] at hx
          cases hx; exact .und _
        · cases hc⟩
    have := r1.append r2
    simpa [hlen] using this
  have ht : c.wpIn Fence.wide 0 P _ _ w := h (G.mk' []) _ w (hyl.st _ _ _ _ hc e0) s0
  refine callsIn_of_wp_marks hf hb trivial (wpIn_mono ht (fun e a' w' hq => ?_))
  obtain ⟨x, G', env', H', hx, he, hs, hq⟩ := hq
  have he' := e0.trans he
  have hn' : H.length ≤ H'.length := by
    have := he.len (by show H.length ≤ (G.mk' []).n; rw [s0.h.n]; exact Nat.le_refl _)
    rw [hs.h.n] at this
    exact this
  have fin : resK (reals P cx rnd ⟨H.length, p⟩) tab fn.results.toList env' H' (fun rs => ∃ rs' H'', Wk ⟨H.length, p⟩ rs H' rs' H'' ∧ K (.ret (res1 rs')) H'') → LeavesInM Fence.wide 0 P fn a'.tmps (callPost ⟨H.length, p⟩ G w K) a'.defers .returning w' := fun hr => by
    rw [hs.marks]
    exact leaves_marks (n0 := ⟨H.length, p⟩) hT G'.marks hs.h hs.env hs.md hs.nd (fun d hd hp => by
      rcases he.mks d hd with h | h
      · cases h
      · have := s.plt d hp; omega) he' hr hn'
  cases x with
  | norm =>
    cases e <;> try exact hx.elim
    exact fin hq
  | ret =>
    cases e <;> try exact hx.elim
    exact fin hq
  | exit i => exact hq.elim
  | pan v => exact hq.elim
end
end Go.Ab

/- Weakening: the rules. -/
namespace Go.Ab

def keepA (ks : List Nat) : Nat → Env → Env
  | _, [] => []
  | i, v :: vs => (bif memo ks i then v else .und) :: keepA ks (i + 1) vs

/-- The slots that still matter. -/
def keepE (ks : List Nat) (env : Env) : Env := keepA ks 0 env

def LeV (x y : V) : Prop := ∀ (G : Gh) (w : World) (v : Value), Rep G w v x → Rep G w v y

def takeB : Nat → Heap → Heap
  | 0, _ => []
  | _ + 1, [] => []
  | n + 1, b :: H => b :: takeB n H

def okBlks (φ : Ar) : Heap → Bool
  | [] => true
  | b :: H => bif allB φ b then okBlks φ H else false

def ltm (m : Nat) : Ar := fun k => Nat.blt k m

def okDrop (m : Nat) (env : Env) (H : Heap) : Bool := bif Nat.ble m H.length then (bif allL (ltm m) env then okBlks (ltm m) (takeB m H) else false) else false

theorem LeV.refl (x : V) : LeV x x := fun _ _ _ h => h
theorem LeV.und (x : V) : LeV x .und := fun _ _ v _ => .und v
theorem LeV.nils (α : Type) (d : α) (n : Nat) (enc : α → List V) (fl : Bool) : LeV .nils (.sl α d n enc fl []) := fun G w v h => by
  rw [h.nils_inv]
  exact .sl _ _ _ _ _ _ _ (nils_lit n fl)
theorem LeV.lit {α : Type} {d : α} {n : Nat} {enc : α → List V} {fl : Bool} {xs : List α} {ess : List (List V)} (h : ess = xs.map enc) : LeV (.lit n ess fl) (.sl α d n enc fl xs) := fun G w v r => by
  subst h
  exact .sl _ _ _ _ _ _ _ r
theorem lit_notFull {G : Gh} {w : World} {v : Value} {n : Nat} {ess : List (List V)} {fl : Bool} (h : Rep G w v (.lit n ess fl)) : Rep G w v (.lit n ess false) := by
  cases h with
  | lit _ _ _ ad cap f hlen hm hf hnone hp hx' hfl hc hr => exact .lit n ess false ad cap f hlen hm (fun e => by cases e) hnone hp hx' hfl hc hr
theorem LeV.litN {α : Type} {d : α} {n : Nat} {enc : α → List V} {fl : Bool} {xs : List α} {ess : List (List V)} (h : ess = xs.map enc) : LeV (.lit n ess fl) (.sl α d n enc false xs) := fun G w v r => by
  subst h
  exact .sl _ _ _ _ _ _ _ (lit_notFull r)
theorem LeV.sl {α : Type} {d : α} {n : Nat} {enc : α → List V} {fl : Bool} {xs : List α} : LeV (.sl α d n enc fl xs) (.sl α d n enc false xs) := fun G w v r =>
  .sl _ _ _ _ _ _ _ (lit_notFull r.sl_inv)

section
variable {P : Program} {n0 : Lim} {cx : Cx} {rnd : Option Nat} {tab : Tab} {G G' : Gh} {a : Act} {w w' : World} {env : Env} {H : Heap}

theorem keepA_rep {ks : List Nat} : ∀ {env : Env} {vs : List Value} {i : Nat}, RepL G w vs env → RepL G w vs (keepA ks i env)
  | [], vs, i, r => by simpa [keepA] using r
  | x :: xs, [], i, r => absurd r.1 (by simp)
  | x :: xs, v :: vs, i, r => by
    have ih := keepA_rep (ks := ks) (i := i + 1) (env := xs) (vs := vs) ⟨by simpa using r.1, fun j c y hc hy => r.2 (j + 1) c y (by simpa using hc) (by simpa using hy)⟩
    refine ⟨by simp [keepA, ih.1], fun j c y hc hy => ?_⟩
    cases j with
    | zero =>
      simp [keepA] at hc hy
      subst hc; subst hy
      cases memo ks i with
      | true => exact r.2 0 v x rfl rfl
      | false => exact .und _
    | succ j => exact ih.2 j c y (by simpa using hc) (by simpa [keepA] using hy)

theorem Wk.keep (ks : List Nat) : Wk n0 env H (keepE ks env) H := fun G w vs s _ r => ⟨G, Ext.refl _ _ _, s, keepA_rep r, rfl⟩

theorem Wk.slot (i : Nat) {y : V} (h : LeV (env.getD i .und) y) : Wk n0 env H (env.set i y) H := fun G w vs s _ r => by
  refine ⟨G, Ext.refl _ _ _, s, ⟨by simpa using r.1, fun j c x hc hx => ?_⟩, rfl⟩
  rw [List.getElem?_set] at hx
  split at hx
  · rename_i e
    subst e
    split at hx
    · rename_i hlt
      cases hx
      refine h G w c (r.2 i c _ hc ?_)
      rw [List.getD_eq_getElem?_getD, List.getElem?_eq_getElem hlt, Option.getD_some]
    · cases hx
  · exact r.2 j c x hc hx

theorem renV_id : (∀ x : V, renV (fun k => k) x = x) := by
  intro x
  induction x using V.rec (motive_2 := fun l => renL (fun k => k) l = l) (motive_3 := fun _ => True) with
  | agg l ih => simp [renV, ih]
  | tuple l ih => simp [renV, ih]
  | fn f a b iha ihb => simp [renV, iha, ihb]
  | iface t v ih => simp [renV, ih]
  | nil => simp [renL]
  | cons x xs ih1 ih2 => simp [renL, ih1, ih2]
  | _ => first | rfl | simp [renV] | trivial

theorem renL_id (l : List V) : renL (fun k => k) l = l := by
  rw [renL_eq]
  conv => rhs; rw [← List.map_id l]
  exact List.map_congr_left fun x _ => renV_id x

theorem renB_id (b : Blk) : renB (fun k => k) b = b := by cases b <;> simp [renB, renL_id]

def Gh.cut (G : Gh) (m : Nat) : Gh := { G with n := m }

theorem takeB_get : ∀ {m : Nat} {H : Heap} {k : Nat} {b : Blk}, (takeB m H)[k]? = some b → k < m ∧ H[k]? = some b
  | 0, H, k, b, h => by simp [takeB] at h
  | m + 1, [], k, b, h => by simp [takeB] at h
  | m + 1, c :: H, 0, b, h => by simpa [takeB] using h
  | m + 1, c :: H, k + 1, b, h => by
    have := takeB_get (m := m) (H := H) (k := k) (b := b) (by simpa [takeB] using h)
    exact ⟨by omega, by simpa using this.2⟩

theorem takeB_len : ∀ {m : Nat} {H : Heap}, m ≤ H.length → (takeB m H).length = m
  | 0, H, _ => by simp [takeB]
  | m + 1, [], h => by simp at h
  | m + 1, c :: H, h => by simp [takeB, takeB_len (m := m) (H := H) (by simpa using h)]

theorem okBlks_get {φ : Ar} : ∀ {H : Heap} {k : Nat} {b : Blk}, okBlks φ H = true → H[k]? = some b → allB φ b = true
  | c :: H, k, b, h, hk => by
    simp only [okBlks] at h
    cases hc : allB φ c with
    | false => rw [hc] at h; cases h
    | true =>
      rw [hc] at h
      cases k with
      | zero => simp at hk; subst hk; exact hc
      | succ k => exact okBlks_get (H := H) h (by simpa using hk)

/-- Younger blocks that nobody knows any more. -/
theorem Wk.drop (m : Nat) (hok : okDrop m env H = true) (hn0 : n0.n ≤ m) : Wk n0 env H env (takeB m H) := fun G w vs s hn r => by
  unfold okDrop at hok
  cases h1 : Nat.ble m H.length with
  | false => rw [h1] at hok; cases hok
  | true =>
  rw [h1] at hok
  have hm : m ≤ H.length := Nat.le_of_ble_eq_true h1
  cases h2 : allL (ltm m) env with
  | false => rw [h2] at hok; cases hok
  | true =>
  rw [h2] at hok
  have hok' : okBlks (ltm m) (takeB m H) = true := hok
  have ro : RenOk (ltm m) (fun k => k) G (G.cut m) := ⟨fun _ h => h, rfl, fun k hk _ => Nat.le_of_ble_eq_true hk, fun _ _ _ => rfl, fun _ _ _ => rfl⟩
  refine ⟨G.cut m, ⟨fun _ h => h, fun _ _ => rfl, Nat.le_refl _, rfl, rfl, rfl, fun _ _ => rfl, rfl, fun _ _ _ => rfl, rfl, fun _ _ => rfl, fun _ => hn0, fun _ h => .inl h⟩, ?_, ?_, rfl⟩
  · have hown : ∀ k b, ownOf (G.cut m) k b = ownOf G k b := fun k b => by cases b <;> rfl
    refine ⟨by rw [takeB_len hm]; rfl, fun k b hk => ?_, fun k b q hk hq => ?_, fun k k' b b' q h1 h2 o1 o2 => ?_, s.plt, fun k b q hk hq => ?_, s.frs⟩
    · obtain ⟨hlt, hk'⟩ := takeB_get hk
      have := (s.rep k b hk').ren ro (s.lt hk') (Nat.ble_eq_true_of_le hlt) (.inl (okBlks_get hok' hk))
      rwa [renB_id] at this
    · rw [hown] at hq; exact s.own k b q (takeB_get hk).2 hq
    · rw [hown] at o1 o2; exact s.inj k k' b b' q (takeB_get h1).2 (takeB_get h2).2 o1 o2
    · rw [hown] at hq; exact s.fro k b q (takeB_get hk).2 hq
  · have := r.ren ro (.inl h2)
    rwa [renL_id] at this

/-- A block that nobody needs. -/
theorem Wk.dead (k : Nat) : Wk n0 env H env (H.set k .dead) := fun G w vs s hn r => by
  have hget : ∀ (j : Nat) (b : Blk), (H.set k .dead)[j]? = some b → b = .dead ∨ H[j]? = some b := fun j b hb => by
    rw [List.getElem?_set] at hb
    split at hb
    · split at hb
      · cases hb; exact .inl rfl
      · cases hb
    · exact .inr hb
  refine ⟨G, Ext.refl _ _ _, ⟨by simpa using s.n, fun j b hb => ?_, fun j b q hb hq => ?_, fun j j' b b' q h1 h2 o1 o2 => ?_, s.plt, fun j b q hb hq => ?_, s.frs⟩, r, rfl⟩
  · rcases hget j b hb with rfl | h
    · trivial
    · exact s.rep j b h
  · rcases hget j b hb with rfl | h
    · cases hq
    · exact s.own j b q h hq
  · rcases hget j b h1 with rfl | h1
    · cases o1
    · rcases hget j' b' h2 with rfl | h2
      · cases o2
      · exact s.inj j j' b b' q h1 h2 o1 o2
  · rcases hget j b hb with rfl | h
    · cases hq
    · exact s.fro j b q h hq

/-- A nil slice becomes an array of one's own, still empty. -/
theorem Wk.own (i : Nat) (e : Nat) {el : El} (hel : ElOk el) (h : env.getD i .und = .nils) : Wk n0 env H (env.set i (.ref H.length el.n 0 0)) (H ++ [.arr e el []]) := fun G w vs s hn r => by
  obtain ⟨sh, le⟩ := s.newNil (e := e) hel
  refine ⟨G.own w.heap.size (.slice none 0 0), Ext.of_more (More.refl w) s (fun b h => h) (fun k hk => by have := s.n; simp [Gh.own]; omega) rfl (fun k hk => by have := s.n; simp [Gh.own]; omega), sh, ⟨by simpa using r.1, fun j c x hc hx => ?_⟩, rfl⟩
  rw [List.getElem?_set] at hx
  split at hx
  · rename_i e'
    subst e'
    split at hx
    · rename_i hlt
      cases hx
      have hv := (r.2 i c _ hc (by rw [List.getD_eq_getElem?_getD, List.getElem?_eq_getElem hlt, Option.getD_some] at h; rw [List.getElem?_eq_getElem hlt, h])).nils_inv
      subst hv
      refine .ref _ _ _ _ _ (by simp [Gh.own, s.n]) ?_
      simp [Gh.own, s.n, refRel]
    · cases hx
  · exact (r.2 j c x hc hx).mono le

/-- So in a cell. -/
theorem Wk.ownCell (k off : Nat) (e : Nat) {el : El} {l : List V} (hel : ElOk el) (hk : H[k]? = some (.cells l)) (h : l[off]? = some .nils) :
    Wk n0 env H env ((H ++ [Blk.arr e el []]).set k (.cells (l.set off (.ref H.length el.n 0 0)))) := fun G w vs s hn r => by
  obtain ⟨sh, le⟩ := s.newNil (e := e) hel
  have hkl : k < H.length := (List.getElem?_eq_some_iff.1 hk).1
  refine ⟨G.own w.heap.size (.slice none 0 0), Ext.of_more (More.refl w) s (fun b h => h) (fun k hk => by have := s.n; simp [Gh.own]; omega) rfl (fun k hk => by have := s.n; simp [Gh.own]; omega), ?_, r.mono le, rfl⟩
  have hget : ∀ (j : Nat) (b : Blk), ((H ++ [Blk.arr e el []]).set k (.cells (l.set off (.ref H.length el.n 0 0))))[j]? = some b → (j = k ∧ b = .cells (l.set off (.ref H.length el.n 0 0))) ∨ (H ++ [Blk.arr e el []])[j]? = some b := fun j b hb => by
    rw [List.getElem?_set] at hb
    split at hb
    · rename_i e'
      split at hb
      · cases hb; exact .inl ⟨e'.symm, rfl⟩
      · cases hb
    · exact .inr hb
  have hk' : (H ++ [Blk.arr e el []])[k]? = some (.cells l) := by rw [List.getElem?_append_left hkl]; exact hk
  have hownk : ∀ G : Gh, ownOf G k (.cells (l.set off (.ref H.length el.n 0 0))) = ownOf G k (.cells l) := fun _ => rfl
  refine ⟨by simpa using sh.n, fun j b hb => ?_, fun j b q hb hq => ?_, fun j j' b b' q h1 h2 o1 o2 => ?_, sh.plt, fun j b q hb hq => ?_, sh.frs⟩
  · rcases hget j b hb with ⟨rfl, rfl⟩ | hb
    · obtain ⟨cs, t, hh, rr⟩ := sh.rep j _ hk'
      refine ⟨cs, t, hh, ⟨by simpa using rr.1, fun i c x hc hx => ?_⟩⟩
      rw [List.getElem?_set] at hx
      split at hx
      · rename_i e'
        subst e'
        split at hx
        · cases hx
          have hv := (rr.2 off c _ hc h).nils_inv
          subst hv
          refine .ref _ _ _ _ _ (by simp [Gh.own, s.n]) ?_
          simp [Gh.own, s.n, refRel]
        · cases hx
      · exact rr.2 i c x hc hx
    · exact sh.rep j b hb
  · rcases hget j b hb with ⟨rfl, rfl⟩ | hb
    · exact sh.own j _ q hk' hq
    · exact sh.own j b q hb hq
  · rcases hget j b h1 with ⟨e1, e2⟩ | h3 <;> rcases hget j' b' h2 with ⟨e3, e4⟩ | h4
    · rw [e1, e3]
    · subst e1; subst e2; exact sh.inj _ _ _ _ q hk' h4 o1 o2
    · subst e3; subst e4; exact sh.inj _ _ _ _ q h3 hk' o1 o2
    · exact sh.inj _ _ _ _ q h3 h4 o1 o2
  · rcases hget j b hb with ⟨rfl, rfl⟩ | hb
    · exact sh.fro j _ q hk' hq
    · exact sh.fro j b q hb hq
end
end Go.Ab

/- Weakening: an array of one's own is let go, and kept. -/
namespace Go.Ab

mutual
def frzV (k : Nat) (el : El) (xs : List el.α) : V → V
  | .ref j n lo len => bif Nat.beq j k then (bif Nat.beq lo 0 && Nat.beq n el.n then .sl el.α el.d el.n el.enc false (xs.take len) else .und) else .ref j n lo len
  | .pe j n i off => bif Nat.beq j k then .und else .pe j n i off
  | .agg l => .agg (frzL k el xs l)
  | .tuple l => .tuple (frzL k el xs l)
  | .fn f a b => .fn f (frzL k el xs a) (frzL k el xs b)
  | .iface t v => .iface t (frzV k el xs v)
  | v => v
def frzL (k : Nat) (el : El) (xs : List el.α) : List V → List V
  | [] => []
  | x :: l => frzV k el xs x :: frzL k el xs l
end

def frzB (k : Nat) (el : El) (xs : List el.α) : Blk → Blk
  | .cells l => .cells (frzL k el xs l)
  | b => b

theorem frzL_eq (k : Nat) (el : El) (xs : List el.α) (l : List V) : frzL k el xs l = l.map (frzV k el xs) := by
  induction l with
  | nil => simp [frzL]
  | cons x l ih => simp [frzL, ih]

theorem frzV_flat {k : Nat} {el : El} {xs : List el.α} {x : V} (h : x.flat = true) : frzV k el xs x = x := by
  cases x <;> first | rfl | (simp [V.flat] at h) | simp [frzV]

def Gh.free (G : Gh) (k : Nat) : Gh := { G with prot := fun b => G.prot b ∨ some b = (G.arv k).ownBlock }

section
variable {P : Program} {n0 : Lim} {cx : Cx} {rnd : Option Nat} {tab : Tab} {G G' : Gh} {a : Act} {w w' : World} {env : Env} {H : Heap}

theorem free_le (k : Nat) : Le G w (G.free k) w := ⟨fun _ h => .inl h, fun _ _ => rfl, Nat.le_refl _, fun _ _ => rfl, fun _ _ => rfl, rfl⟩

theorem ref_frz {k e n len : Nat} {el : El} {xs : List el.α} {v : Value} (s : SimH G w H) (hk : H[k]? = some (.arr e el xs)) (hn : n = el.n) (hr : refRel (G.arv k) n 0 len v) : Rep (G.free k) w v (.sl el.α el.d el.n el.enc false (xs.take len)) := by
  subst hn
  refine .sl _ _ _ _ _ _ _ ?_
  obtain ⟨hel, vs, hown, rx⟩ := s.rep k _ hk
  unfold refRel at hr
  split at hr
  · obtain ⟨_, rfl, rfl⟩ := hr
    simpa using nils_lit el.n false
  · rename_i p m cap harv
    obtain ⟨hle, hmc, q, rfl, hqb, hq⟩ := hr
    have hq' := hq (.inr rfl)
    simp only [Nat.zero_mul, Addr.add, if_true] at hq'
    subst hq'
    obtain ⟨_, e1, _, hcm, hp0, cur, vs0, hg, hcs, htk, r0, hvl⟩ := arr_cells s hk harv
    obtain ⟨qb, qo, qs⟩ := q
    simp only [Addr.mk.injEq, true_and] at hp0
    obtain ⟨rfl, rfl⟩ := hp0
    subst e1
    have hlen : len ≤ xs.length := by omega
    have hln : len * el.n ≤ xs.length * el.n := Nat.mul_le_mul_right _ hlen
    have hlenx : ∀ c ∈ xs.map el.enc, c.length = el.n := fun c hc => by
      obtain ⟨y, _, rfl⟩ := List.mem_map.1 hc
      exact hel.len y
    have hpre : w.ownsRow 0 e el.n (.slice (some ⟨qb, 0, none⟩) len cap) len (vs0.take (len * el.n)) :=
      ⟨by rw [List.length_take, hvl]; omega, .inr ⟨qb, cap, cur, rfl, Nat.zero_le _, hg, by omega, hcm, hcs, by rw [← htk, List.take_take, Nat.min_eq_left hln]⟩⟩
    have rpre : RepL G w (vs0.take (len * el.n)) ((xs.take len).map el.enc).flatten := by
      rw [List.map_take, flatten_take hlenx]
      have := r0.sub 0 (len * el.n)
      simpa using this
    have := lit_of_row (G := G.free k) hpre (fun q hq => .inr (by cases hq; rw [harv]; rfl)) (rpre.mono (free_le k)) (fun c hc => by
      obtain ⟨y, _, rfl⟩ := List.mem_map.1 hc
      exact hel.len y) (by simp; omega) (fun y hy => by
      obtain ⟨c, hc, hy⟩ := List.mem_flatten.1 hy
      obtain ⟨x, _, rfl⟩ := List.mem_map.1 hc
      exact hel.flat x y hy)
    simpa using this
  · exact hr.elim

theorem Rep.frz {k e : Nat} {el : El} {xs : List el.α} (s : SimH G w H) (hk : H[k]? = some (.arr e el xs)) {v : Value} {x : V} (r : Rep G w v x) : Rep (G.free k) w v (frzV k el xs x) := by
  have h := free_le (G := G) (w := w) k
  induction r with
  | und v => simp only [frzV]; exact .und v
  | bool b => simp only [frzV]; exact .bool b
  | int k n h => simp only [frzV]; exact .int k n h
  | str s => simp only [frzV]; exact .str s
  | agg cs l hn _ ih =>
    simp only [frzV, frzL_eq]
    refine .agg cs _ (by simpa using hn) (fun i c x hc hx' => ?_)
    simp only [List.getElem?_map, Option.map_eq_some_iff] at hx'
    obtain ⟨y, hy, rfl⟩ := hx'
    exact ih i c y hc hy
  | tuple cs l hn _ ih =>
    simp only [frzV, frzL_eq]
    refine .tuple cs _ (by simpa using hn) (fun i c x hc hx' => ?_)
    simp only [List.getElem?_map, Option.map_eq_some_iff] at hx'
    obtain ⟨y, hy, rfl⟩ := hx'
    exact ih i c y hc hy
  | nils => simp only [frzV]; exact .nils
  | lit n ess fl ad cap f hlen hm hf hnone hp hx' hfl hc hr ih =>
    simp only [frzV]
    exact .lit n ess fl ad cap f hlen hm hf hnone (fun p hp' h0 => ⟨h.prot _ (hp p hp' h0).1, (hp p hp' h0).2⟩) hx' hfl hc
      (fun j y hy => (hr j y hy).mono h)
  | sl α d n enc fl xs v _ ih => simp only [frzV] at ih ⊢; exact .sl α d n enc fl xs v ih
  | pp cs p f hp hs hfl hc hr ih =>
    simp only [frzV]
    exact .pp cs p f (h.prot _ hp) hs hfl hc (fun j y hy => (hr j y hy).mono h)
  | ref j n lo len v hj h' =>
    simp only [frzV]
    cases hb : Nat.beq j k with
    | false => simp only [cond_false]; exact .ref j n lo len v hj h'
    | true =>
      have e' := Nat.eq_of_beq_eq_true hb
      subst e'
      simp only [cond_true]
      cases hb2 : (Nat.beq lo 0 && Nat.beq n el.n) with
      | false => exact .und v
      | true =>
        simp only [Bool.and_eq_true] at hb2
        have e1 := Nat.eq_of_beq_eq_true hb2.1
        have e2 := Nat.eq_of_beq_eq_true hb2.2
        subst e1
        exact ref_frz s hk e2 h'
  | pe j n i off v hj h' =>
    simp only [frzV]
    cases hb : Nat.beq j k with
    | false => simp only [cond_false]; exact .pe j n i off v hj h'
    | true => simp only [cond_true]; exact .und v
  | ptr j off hj => simp only [frzV]; exact Rep.mono h (.ptr j off hj)
  | nilp => simp only [frzV]; exact .nilp
  | mp j hj => simp only [frzV]; exact Rep.mono h (.mp j hj)
  | nilm => simp only [frzV]; exact .nilm
  | fn f fs cs a b h1 h2 _ _ iha ihb =>
    simp only [frzV, frzL_eq]
    refine .fn f fs cs _ _ (by simpa using h1) (by simpa using h2) (fun i c x hc hx' => ?_) (fun i c x hc hx' => ?_)
    · simp only [List.getElem?_map, Option.map_eq_some_iff] at hx'
      obtain ⟨y, hy, rfl⟩ := hx'
      exact iha i c y hc hy
    · simp only [List.getElem?_map, Option.map_eq_some_iff] at hx'
      obtain ⟨y, hy, rfl⟩ := hx'
      exact ihb i c y hc hy
  | nilf => simp only [frzV]; exact .nilf
  | yld => simp only [frzV]; exact Rep.mono h .yld
  | iface t u x _ ih => simp only [frzV]; exact .iface t u _ ih
  | nili => simp only [frzV]; exact .nili
  | itr j hj => simp only [frzV]; exact Rep.mono h (.itr j hj)

theorem RepL.frz {k e : Nat} {el : El} {xs : List el.α} (s : SimH G w H) (hk : H[k]? = some (.arr e el xs)) {vs : List Value} {l : List V} (r : RepL G w vs l) : RepL (G.free k) w vs (frzL k el xs l) := by
  refine ⟨by rw [frzL_eq]; simpa using r.1, fun i c x hc hx' => ?_⟩
  rw [frzL_eq] at hx'
  simp only [List.getElem?_map, Option.map_eq_some_iff] at hx'
  obtain ⟨y, hy, rfl⟩ := hx'
  exact (r.2 i c y hc hy).frz s hk

def mapF (k : Nat) (el : El) (xs : List el.α) : Heap → Heap
  | [] => []
  | b :: H => frzB k el xs b :: mapF k el xs H

theorem mapF_eq {k : Nat} {el : El} {xs : List el.α} : ∀ {H : Heap}, mapF k el xs H = H.map (frzB k el xs)
  | [] => rfl
  | b :: H => by simp [mapF, mapF_eq]

/-- **An array of one's own is let go: from now on it is a list.** -/
theorem Wk.freeze (k : Nat) {e : Nat} {el : El} {xs : List el.α} (hk : H[k]? = some (.arr e el xs)) : Wk n0 env H (frzL k el xs env) ((mapF k el xs H).set k .dead) := fun G w vs s hn r => by
  have le := free_le (G := G) (w := w) k
  have hkl : k < H.length := (List.getElem?_eq_some_iff.1 hk).1
  have hget : ∀ (j : Nat) (b : Blk), ((mapF k el xs H).set k .dead)[j]? = some b → b = .dead ∨ (j ≠ k ∧ ∃ b0, H[j]? = some b0 ∧ b = frzB k el xs b0) := fun j b hb => by
    rw [List.getElem?_set] at hb
    split at hb
    · split at hb
      · cases hb; exact .inl rfl
      · cases hb
    · rename_i hne
      rw [mapF_eq] at hb
      simp only [List.getElem?_map, Option.map_eq_some_iff] at hb
      obtain ⟨b0, h0, rfl⟩ := hb
      exact .inr ⟨fun e => hne e.symm, b0, h0, rfl⟩
  have hown : ∀ j b0, ownOf (G.free k) j (frzB k el xs b0) = ownOf G j b0 := fun j b0 => by cases b0 <;> rfl
  have ownk : ∀ q, some q = (G.arv k).ownBlock → ownOf G k (.arr e el xs) = some q := fun q hq => by simp [ownOf, ← hq]
  refine ⟨G.free k, ⟨fun _ h => .inl h, fun _ _ => rfl, Nat.le_refl _, rfl, rfl, rfl, fun _ _ => rfl, rfl, fun _ _ _ => rfl, rfl, fun _ _ => rfl, id, fun _ h => .inl h⟩, ?_, r.frz s hk, rfl⟩
  refine ⟨by rw [List.length_set, mapF_eq, List.length_map]; exact s.n, fun j b hb => ?_, fun j b q hb hq => ?_, fun j j' b b' q h1 h2 o1 o2 => ?_, fun q hq => ?_, fun j b q hb hq => ?_, fun q hq => ⟨(s.frs q hq).1, fun hp => ?_⟩⟩
  · rcases hget j b hb with rfl | ⟨hne, b0, h0, rfl⟩
    · trivial
    · cases b0 with
      | cells l =>
        obtain ⟨cs, t, hh, rr⟩ := s.rep j _ h0
        exact ⟨cs, t, hh, rr.frz s hk⟩
      | _ => exact (s.rep j _ h0).mono le (Nat.le_refl _) (s.lt h0) (fun _ _ => rfl) (fun _ _ _ _ _ _ _ _ h => h)
  · rcases hget j b hb with rfl | ⟨hne, b0, h0, rfl⟩
    · cases hq
    · rw [hown] at hq
      obtain ⟨h1, h2⟩ := s.own j b0 q h0 hq
      refine ⟨h1, fun hp => ?_⟩
      rcases hp with hp | hp
      · exact h2 hp
      · exact hne (s.inj j k b0 _ q h0 hk hq (ownk q hp))
  · rcases hget j b h1 with rfl | ⟨hne, b0, h0, rfl⟩
    · cases o1
    · rcases hget j' b' h2 with rfl | ⟨hne', b0', h0', rfl⟩
      · cases o2
      · rw [hown] at o1 o2
        exact s.inj j j' b0 b0' q h0 h0' o1 o2
  · rcases hq with hq | hq
    · exact s.plt q hq
    · exact (s.own k _ q hk (ownk q hq)).1
  · rcases hget j b hb with rfl | ⟨hne, b0, h0, rfl⟩
    · cases hq
    · rw [hown] at hq
      exact s.fro j b0 q h0 hq
  · rcases hp with hp | hp
    · exact (s.frs q hq).2 hp
    · exact s.fro k _ q hk (ownk q hp) hq
end
end Go.Ab

/- Range over a function: the rule. -/
namespace Go.Ab

mutual
def noY : V → Bool
  | .yld => false
  | .agg l => noYL l
  | .tuple l => noYL l
  | .fn _ a b => bif noYL a then noYL b else false
  | .iface _ v => noY v
  | _ => true
def noYL : List V → Bool
  | [] => true
  | x :: xs => bif noY x then noYL xs else false
end

def noYB : Blk → Bool
  | .cells l => noYL l
  | _ => true

def noYH : Heap → Bool
  | [] => true
  | b :: H => bif noYB b then noYH H else false

theorem noYL_mem : ∀ {l : List V}, noYL l = true → ∀ x ∈ l, noY x = true
  | [], _, x, hx => by cases hx
  | y :: l, h, x, hx => by
    simp only [noYL] at h
    cases hy : noY y with
    | false => rw [hy] at h; cases h
    | true =>
      rw [hy] at h
      rcases List.mem_cons.1 hx with rfl | hx
      · exact hy
      · exact noYL_mem h x hx

theorem noYH_get : ∀ {H : Heap} {k : Nat} {b : Blk}, noYH H = true → H[k]? = some b → noYB b = true
  | [], k, b, _, hk => by simp at hk
  | y :: H, k, b, h, hk => by
    simp only [noYH] at h
    cases hy : noYB y with
    | false => rw [hy] at h; cases h
    | true =>
      rw [hy] at h
      cases k with
      | zero => simp at hk; subst hk; exact hy
      | succ k => exact noYH_get h (by simpa using hk)

theorem noY_flat {x : V} (h : x.flat = true) : noY x = true := by cases x <;> first | rfl | simp [V.flat] at h

section
variable {P : Program} {n0 : Lim} {cx : Cx} {rnd : Option Nat} {tab : Tab} {G G' : Gh} {a : Act} {w w' : World} {env : Env} {H : Heap}

/-- The same ghost, of another yield. -/
def Gh.ofY (G : Gh) (l : Nat) : Gh := { G with yl := l }
/-- One more block that stays. -/
def Gh.stay (G : Gh) (l : Nat) : Gh := { G with fr := fun b => b = l ∨ G.fr b }
def Gh.withFr (G : Gh) (f : Nat → Prop) : Gh := { G with fr := f }

theorem Rep.ofY (l : Nat) {v : Value} {x : V} (r : Rep G w v x) (hx : noY x = true) : Rep (G.ofY l) w v x := by
  induction r with
  | und v => exact .und v
  | bool b => exact .bool b
  | int k n h => exact .int k n h
  | str s => exact .str s
  | agg cs l hn _ ih => exact .agg cs l hn (fun i c x hc hx' => ih i c x hc hx' (noYL_mem (by simpa [noY] using hx) x (List.mem_of_getElem? hx')))
  | tuple cs l hn _ ih => exact .tuple cs l hn (fun i c x hc hx' => ih i c x hc hx' (noYL_mem (by simpa [noY] using hx) x (List.mem_of_getElem? hx')))
  | nils => exact .nils
  | lit n ess fl ad cap f hlen hm hf hnone hp hx' hfl hc _ ih =>
    exact .lit n ess fl ad cap f hlen hm hf hnone hp hx' hfl hc (fun j y hy => ih j y hy (noY_flat (hfl y (List.mem_of_getElem? hy))))
  | sl α d n enc fl xs v _ ih => exact .sl α d n enc fl xs v (ih rfl)
  | pp cs p f hp hs hfl hc _ ih => exact .pp cs p f hp hs hfl hc (fun j y hy => ih j y hy (noY_flat (hfl y (List.mem_of_getElem? hy))))
  | ref k n lo len v hk h' => exact .ref k n lo len v hk h'
  | pe k n i off v hk h' => exact .pe k n i off v hk h'
  | ptr k off hk => exact Rep.ptr (G := G.ofY l) k off hk
  | nilp => exact .nilp
  | mp k hk => exact Rep.mp (G := G.ofY l) k hk
  | nilm => exact .nilm
  | fn f fs cs a b h1 h2 _ _ iha ihb =>
    have hx' : noYL a = true ∧ noYL b = true := by
      simp only [noY] at hx
      cases ha : noYL a with
      | false => rw [ha] at hx; cases hx
      | true => rw [ha] at hx; exact ⟨rfl, hx⟩
    exact .fn f fs cs a b h1 h2 (fun i c x hc hx => iha i c x hc hx (noYL_mem hx'.1 x (List.mem_of_getElem? hx))) (fun i c x hc hx => ihb i c x hc hx (noYL_mem hx'.2 x (List.mem_of_getElem? hx)))
  | nilf => exact .nilf
  | yld => simp [noY] at hx
  | iface t u x _ ih => exact .iface t u x (ih (by simpa [noY] using hx))
  | nili => exact .nili
  | itr k hk => exact Rep.itr (G := G.ofY l) k hk

theorem RepL.ofY (l : Nat) {vs : List Value} {ls : List V} (r : RepL G w vs ls) (h : noYL ls = true) : RepL (G.ofY l) w vs ls :=
  ⟨r.1, fun i c x hc hx => (r.2 i c x hc hx).ofY l (noYL_mem h x (List.mem_of_getElem? hx))⟩

theorem SimH.ofY (l : Nat) (s : SimH G w H) (h : noYH H = true) : SimH (G.ofY l) w H := by
  refine ⟨s.n, fun k b hk => ?_, fun k b q hk hq => s.own k b q hk (by rw [← hq]; cases b <;> rfl), fun k k' b b' q h1 h2 o1 o2 => s.inj k k' b b' q h1 h2 (by rw [← o1]; cases b <;> rfl) (by rw [← o2]; cases b' <;> rfl),
    s.plt, fun k b q hk hq => s.fro k b q hk (by rw [← hq]; cases b <;> rfl), s.frs⟩
  have hb := noYH_get h hk
  have r := s.rep k b hk
  cases b with
  | dead => trivial
  | cells cs =>
    obtain ⟨cs', t, h1, h2⟩ := r
    exact ⟨cs', t, h1, h2.ofY l hb⟩
  | arr e el xs =>
    obtain ⟨hel, vs, h1, h2⟩ := r
    refine ⟨hel, vs, h1, h2.1, fun i c x hc hx => (h2.2 i c x hc hx).ofY l ?_⟩
    obtain ⟨y, _, hy⟩ := List.mem_flatMap.1 (List.mem_of_getElem? hx)
    exact noY_flat (hel.flat y x hy)
  | map m es =>
    obtain ⟨hm, ents, clock, h1, h2, h3, h4⟩ := r
    exact ⟨hm, ents, clock, h1, h2, fun i e p he hp => ⟨((h3 i e p he hp).1).ofY l (noY_flat (hm.key _)), ((h3 i e p he hp).2).ofY l (noY_flat (hm.val _))⟩, h4⟩
  | iter r' m es rem cur => exact r

theorem SimH.withFr (s : SimH G w H) (f : Nat → Prop) (h : ∀ q, f q → G.fr q) : SimH (G.withFr f) w H := by
  have le : Le G w (G.withFr f) w := ⟨fun _ h => h, fun _ _ => rfl, Nat.le_refl _, fun _ _ => rfl, fun _ _ => rfl, rfl⟩
  refine ⟨s.n, fun k b hk => (s.rep k b hk).mono le (Nat.le_refl _) (s.lt hk) (fun _ _ => rfl) (fun _ _ _ _ _ _ _ _ h => h), fun k b q hk hq => s.own k b q hk (by rw [← hq]; cases b <;> rfl), fun k k' b b' q h1 h2 o1 o2 => s.inj k k' b b' q h1 h2 (by rw [← o1]; cases b <;> rfl) (by rw [← o2]; cases b' <;> rfl),
    s.plt, fun k b q hk hq hf => s.fro k b q hk (by rw [← hq]; cases b <;> rfl) (h q hf), fun q hq => s.frs q (h q hq)⟩

/-- One more block, that stays as it is. -/
theorem SimH.newStay (s : SimH G w H) (m : More w w') {q : Nat} (hq : w.heap.size ≤ q) (hq' : q < w'.heap.size) : SimH (G.stay q) w' H ∧ Le G w (G.stay q) w' := by
  have le : Le G w (G.stay q) w' := s.le_more m (fun b h => h) (Nat.le_refl _) (fun k hk => rfl) (fun k hk => rfl) rfl
  refine ⟨⟨s.n, fun k b' hk => s.old m le hk, fun k b' j hk hj => ?_, fun k k' b1 b2 j h1 h2 o1 o2 => ?_, fun j hj => Nat.lt_of_lt_of_le (s.plt j hj) m.size, fun k b' j hk hj hf => ?_, fun j hj => ?_⟩, le⟩
  · rw [ownOf_mono le (s.lt hk)] at hj
    exact ⟨Nat.lt_of_lt_of_le (s.own k b' j hk hj).1 m.size, (s.own k b' j hk hj).2⟩
  · rw [ownOf_mono le (s.lt h1)] at o1; rw [ownOf_mono le (s.lt h2)] at o2
    exact s.inj k k' b1 b2 j h1 h2 o1 o2
  · rw [ownOf_mono le (s.lt hk)] at hj
    rcases hf with rfl | hf
    · have := (s.own k b' _ hk hj).1; omega
    · exact s.fro k b' j hk hj hf
  · rcases hj with rfl | hj
    · exact ⟨hq', fun hp => by have := s.plt _ hp; omega⟩
    · exact ⟨Nat.lt_of_lt_of_le (s.frs j hj).1 m.size, (s.frs j hj).2⟩

/-- A loop's record turns. -/
theorem SimH.record (s : SimH G w H) {l : Nat} (hf : G.fr l) {r r' : Loop} (hl : w.heap[l]? = some (.loop r)) :
    SimH G (ChangeMaps.setBlock w l (.loop r')) H ∧ Le G w G (ChangeMaps.setBlock w l (.loop r')) := by
  have one := One.setBlock w l (.loop r')
  have hset : (ChangeMaps.setBlock w l (.loop r')).heap[l]? = some (.loop r') := setBlock_at hl
  have hfs := s.frs l hf
  have le : Le G w G (ChangeMaps.setBlock w l (.loop r')) :=
    ⟨fun _ h => h, fun p hp => cell_of_heap (one.heap _ (fun e => hfs.2 (e ▸ hp))), Nat.le_refl _, fun _ _ => rfl, fun _ _ => rfl, rfl⟩
  have hne : ∀ k b q, H[k]? = some b → ownOf G k b = some q → q ≠ l := fun k b q hk hq e => s.fro k b q hk hq (e ▸ hf)
  refine ⟨⟨s.n, fun k b hk => ?_, fun k b q hk hq => by rw [one.size]; exact s.own k b q hk hq, s.inj, fun q hq => by rw [one.size]; exact s.plt q hq, s.fro, fun q hq => by rw [one.size]; exact s.frs q hq⟩, le⟩
  refine (s.rep k b hk).mono le (by rw [one.size]; exact Nat.le_refl _) (s.lt hk) (fun q hq => one.heap q (hne k b q hk hq)) (fun r m es rem cur e ents clock hm => ?_)
  have : G.blk r ≠ l := fun e' => by rw [e', hset] at hm; cases hm
  rwa [one.heap _ this] at hm

theorem run_getLoop {l : Nat} {r : Loop} (h : w.heap[l]? = some (.loop r)) : (Instr.getLoop l).run P w = .ok r w := by
  simp [Instr.getLoop, getObj, Sem.run, h, Result.andThen]

theorem run_setLoop {l : Nat} {r r' : Loop} (h : w.heap[l]? = some (.loop r)) : (setObj l (.loop r')).run P w = .ok () (ChangeMaps.setBlock w l (.loop r')) := by
  simp [setObj, Sem.run, h, ChangeMaps.setBlock, Result.andThen]

theorem run_beginRound {l : Nat} {r : Loop} (h : w.heap[l]? = some (.loop r)) (hr : r.state = .ready) : (Instr.beginRound l).run P w = .ok () (ChangeMaps.setBlock w l (.loop { r with state := .busy })) := by
  simp [Instr.beginRound, Sem.run_bind, run_getLoop h, Result.andThen, run_setLoop h, hr]

theorem run_endRound {l : Nat} {r : Loop} (h : w.heap[l]? = some (.loop r)) : (Instr.endRound l none).run P w = .ok (.bool true) (ChangeMaps.setBlock w l (.loop { r with state := .ready, pending := none })) := by
  simp [Instr.endRound, Sem.run_bind, run_getLoop h, Result.andThen, run_setLoop h]

theorem run_endLoop {l : Nat} {r : Loop} (h : w.heap[l]? = some (.loop r)) (hr : r.state = .ready) (hp : r.pending = none) : (Instr.endLoop l).run P w = .ok none (ChangeMaps.setBlock w l (.loop { r with state := .exhausted })) := by
  have hb : (LoopState.ready == LoopState.busy) = false := rfl
  simp [Instr.endLoop, Sem.run_bind, run_getLoop h, Result.andThen, run_setLoop h, hr, hp, hb]

def setPs : List (Nat × V) → Env → Env
  | [], env => env
  | (t, v) :: r, env => setPs r (env.set t v)

theorem RepL.set {vs : List Value} {l : List V} (r : RepL G w vs l) (t : Nat) {v : Value} {x : V} (h : Rep G w v x) : RepL G w (vs.set t v) (l.set t x) := by
  refine ⟨by simpa using r.1, fun i c y hc hy => ?_⟩
  rw [List.getElem?_set] at hc hy
  by_cases e : t = i
  · subst e
    simp only [if_true] at hc hy
    split at hc
    · split at hy
      · cases hc; cases hy; exact h
      · cases hy
    · cases hc
  · simp only [e, if_false] at hc hy
    exact r.2 i c y hc hy

theorem setPs_rep : ∀ (ps : List Nat) (vs : List Value) (xs : List V) (tmps : Array Value) (env : Env), RepL G w vs xs → RepL G w tmps.toList env →
    RepL G w ((ps.zip vs).foldl (fun tmps p => tmps.setIfInBounds p.1 p.2) tmps).toList (setPs (ps.zip xs) env)
  | [], _, _, tmps, env, _, h => by simpa [setPs] using h
  | _ :: _, [], [], tmps, env, _, h => by simpa [setPs] using h
  | _ :: _, [], _ :: _, _, _, r, _ => absurd r.1 (by simp)
  | _ :: _, _ :: _, [], _, _, r, _ => absurd r.1 (by simp)
  | t :: ps, v :: vs, x :: xs, tmps, env, r, h => by
    simp only [List.zip_cons_cons, List.foldl_cons, setPs]
    refine setPs_rep ps vs xs _ _ ⟨by simpa using r.1, fun i c y hc hy => r.2 (i + 1) c y (by simpa using hc) (by simpa using hy)⟩ ?_
    have := h.set t (r.2 0 v x rfl rfl)
    simpa using this

/-- The context of a loop over a function. -/
def Cx.loop (l : Nat) (Gc : Gh) (w1 : World) (n1 : Lim) : Cx := { yl := l, ok := fun G w => Ext n1 Gc w1 G w, Y := fun _ _ _ => False }

theorem Cx.loop_ok {l : Nat} {Gc : Gh} {w1 : World} {n1 : Lim} (h : Gc.yl = l) : (Cx.loop l Gc w1 n1).Ok n1 :=
  ⟨fun _ _ _ _ h e => h.trans e, fun _ _ e => e.yl.trans h⟩

/-- **A round, out of the walks of its parts.** -/
theorem YT_of_T {l : Nat} {Gc : Gh} {w1 : World} {rc : Loop} {env0 : Env} {args : List V} {H1 : Heap} {p : Ar} {J : Heap → Prop} {n1 : Lim} (hn1 : n1 = ⟨H1.length, p⟩) (hy : Gc.yl = l) (hfr : Gc.fr l) (hrec : w1.heap[l]? = some (.loop rc)) (hst : rc.state = .ready) (hpe : rc.pending = none)
    (hargs : args.length = rc.params.size) (hGn : Gc.n = H1.length) (henv : RepL Gc w1 rc.tmps.toList env0)
    (h : T P (Cx.plain l) (some l) n1 rc.assign (fun x env' H' => x = .norm ∧ n1.n ≤ H'.length ∧ T P (Cx.plain l) (some l) n1 rc.body (fun x env' H' => x = .norm ∧ n1.n ≤ H'.length ∧ ∃ env'' H'', Wk n1 env' H' env'' H'' ∧ J H'') env' H')
      (setPs (rc.params.toList.zip args) (env0.map (killV p))) H1) :
    YT P (Cx.loop l Gc w1 n1) p args H1 (fun o H' => o = .ret (.bool true) ∧ J H') := fun G w vs hc s r => by
  subst hn1
  have hc' : Ext ⟨H1.length, p⟩ Gc w1 G w := hc
  have hl : w.heap[l]? = some (.loop rc) := (hc'.kfr l hfr).trans hrec
  have hfl : G.fr l := by rw [hc'.fr]; exact hfr
  have hyl : G.yl = l := hc'.yl.trans hy
  have hsz : vs.size = rc.params.size := by rw [← hargs, ← r.1]; simp
  have henv' : RepL G w rc.tmps.toList (env0.map (killV p)) := by
    rw [map_killV]
    rw [← hGn] at hc'
    exact henv.kill (LeK.of_ext hc')
  refine ⟨rc.fn, (rc.params.zip vs).foldl (fun tmps q => tmps.setIfInBounds q.1 q.2) rc.tmps, rc.assign, rc.body, ?_, ?_⟩
  · simp [Instr.yield, Sem.run_bind, Cx.loop, run_getLoop hl, Result.andThen, hsz]
  show RoundIn Fence.wide 0 P l rc.fn ((rc.params.zip vs).foldl (fun tmps q => tmps.setIfInBounds q.1 q.2) rc.tmps) rc.assign rc.body w _
  refine roundIn_of_wpIn trivial ?_
  have s0 : Sim (G.mk' []) { tmps := (rc.params.zip vs).foldl (fun tmps q => tmps.setIfInBounds q.1 q.2) rc.tmps, defers := [] } w (setPs (rc.params.toList.zip args) (env0.map (killV p))) H1 := by
    refine ⟨s.marks [], ?_, rfl, fun d hd => (by cases hd), List.nodup_nil⟩
    have := setPs_rep rc.params.toList vs.toList args rc.tmps _ r henv'
    have e : (rc.params.zip vs).foldl (fun tmps q => tmps.setIfInBounds q.1 q.2) rc.tmps = (rc.params.toList.zip vs.toList).foldl (fun tmps q => tmps.setIfInBounds q.1 q.2) rc.tmps := by
      rw [← Array.foldl_toList]; simp
    refine RepL.mono (Le.marks []) ?_
    rw [e]
    exact this
  have t1 := h (G.mk' []) _ w (show (G.mk' []).yl = l from hyl) s0
  refine wpIn_mono t1 (fun e a1 w2 hq => ?_)
  obtain ⟨x, G1, env1, H2, hx, e1, s1, hxn, hlen2, t2⟩ := hq
  subst hxn
  cases e <;> try exact hx.elim
  have hfl1 : G1.fr l := by rw [e1.fr]; exact hfl
  have hl2 : w2.heap[l]? = some (.loop rc) := (e1.kfr l hfl).trans hl
  refine ⟨_, run_beginRound hl2 hst, ?_⟩
  have one2 := One.setBlock w2 l (.loop { rc with state := .busy })
  obtain ⟨sh2, le2⟩ := s1.h.record (r' := { rc with state := .busy }) hfl1 hl2
  have s2 : Sim G1 a1 (ChangeMaps.setBlock w2 l (.loop { rc with state := .busy })) env1 H2 :=
    ⟨sh2, s1.env.mono le2, s1.marks, fun D hD => ⟨by rw [one2.heap D (fun e => (s1.h.frs l hfl1).2 (e ▸ (s1.md D hD).2))]; exact (s1.md D hD).1, (s1.md D hD).2⟩, s1.nd⟩
  have t3 := t2 G1 a1 _ (show G1.yl = l from e1.yl.trans hyl) s2
  have hbusy : (ChangeMaps.setBlock w2 l (.loop { rc with state := .busy })).heap[l]? = some (.loop { rc with state := .busy }) := setBlock_at hl2
  generalize ChangeMaps.setBlock w2 l (.loop { rc with state := .busy }) = w2b at one2 sh2 le2 s2 t3 hbusy
  refine wpIn_mono t3 (fun e a3 w3 hq => ?_)
  obtain ⟨x, G2, env2, H3, hx, e2, s3, hxn, hlen3, env3, H4, hwk, hJ⟩ := hq
  subst hxn
  cases e <;> try exact hx.elim
  obtain ⟨G3, e3, s4⟩ := s3.wk hlen3 hwk
  have e23 := e2.trans e3
  have hfl3 : G3.fr l := by rw [e23.fr]; exact hfl1
  have hl3 : w3.heap[l]? = some (.loop { rc with state := .busy }) := (e23.kfr l hfl1).trans hbusy
  refine ⟨_, _, run_endRound hl3, ?_⟩
  have hback : ({ ({ rc with state := .busy } : Loop) with state := .ready, pending := none } : Loop) = rc := by
    obtain ⟨st, pe, f, tm, ps, as, bo, df⟩ := rc
    simp only at hst hpe
    subst hst; subst hpe
    rfl
  rw [hback]
  have one4 := One.setBlock w3 l (.loop rc)
  obtain ⟨sh4, le4⟩ := s4.h.record (r' := rc) hfl3 hl3
  have hset4 : (ChangeMaps.setBlock w3 l (.loop rc)).heap[l]? = some (.loop rc) := setBlock_at hl3
  have hpl : ¬ G.prot l := (s.frs l hfl).2
  have old : ∀ b, b ≠ l → (G.prot b ∨ G.fr b) → (ChangeMaps.setBlock w3 l (.loop rc)).heap[b]? = w.heap[b]? := fun b hb hpf => by
    rw [one4.heap b hb]
    rcases hpf with hp | hf
    · have hp1 : G1.prot b := e1.prot b hp
      rw [e23.keep b hp1, one2.heap b hb, e1.keep b hp]
    · have hf1 : G1.fr b := by rw [e1.fr]; exact hf
      rw [e23.kfr b hf1, one2.heap b hb, e1.kfr b hf]
  refine ⟨G3.mk' G.marks, .ret (.bool true), H4, Rep.bool true, ?_, sh4.marks _, rfl, hJ⟩
  exact ⟨fun b hb => e23.prot b (e1.prot b hb), fun b hb => old b (fun e => hpl (e ▸ hb)) (.inl hb), by rw [one4.size]; exact Nat.le_trans e1.size (by rw [← one2.size]; exact e23.size), (one4.os.trans e23.os).trans (one2.os.trans e1.os),
    (one4.tape.trans e23.tape).trans (one2.tape.trans e1.tape), (one4.output.trans e23.output).trans (one2.output.trans e1.output), fun k hk => (e23.blk k hk).trans (e1.blk k hk), e23.yl.trans e1.yl, fun k hk hp => (e23.arv k hk hp).trans (e1.arv k hk hp), e23.fr.trans e1.fr,
    fun b hb => by
      by_cases e : b = l
      · subst e; rw [hset4, hl]
      · exact old b e (.inr hb),
    fun hh => e23.len (e1.len hh), fun D hD => .inl hD⟩

/-- What is to be shown of a round. -/
def RoundT (P : Program) (ps : Array Tmp) (assign body : Code) (n1 : Lim) (env : Env) (args : List V) (H1 : Heap) (J : Heap → Prop) : Prop :=
  ∀ l, T P (Cx.plain l) (some l) n1 assign (fun x env' H' => x = .norm ∧ n1.n ≤ H'.length ∧ T P (Cx.plain l) (some l) n1 body (fun x env' H' => x = .norm ∧ n1.n ≤ H'.length ∧ ∃ env'' H'', Wk n1 env' H' env'' H'' ∧ J H'') env' H')
      (setPs (ps.toList.zip args) env) H1

/-- **Range over a function.** -/
theorem tri_range {S : Sy} {g : Operand} {ps : Array Tmp} {assign body : Code} {Q : Post} {f : Nat} {first cap : List V} (p : Ar) (K : Heap → Prop) (hS : S = reals P cx none n0) (hyl : cx.Ok n0) (hn : n0.n ≤ H.length) (hm : n0.may p)
    (hg : opd env g = .fn f first cap) (hokg : okOpd g = true) (henv : noYL env = true) (hH : noYH H = true)
    (hcall : ∀ cxl : Cx, cxl.Ok ⟨H.length, p⟩ → (∀ args H1 J, args.length = ps.size → H1.length = H.length → RoundT P ps assign body ⟨H.length, p⟩ (env.map (killV p)) args H1 J → YT P cxl p args H1 (fun o H' => o = .ret (.bool true) ∧ J H')) →
      CT P cxl p f (first ++ [.yld] ++ cap) H (fun o H' => (∃ v, o = .ret v) ∧ noYH H' = true ∧ K H'))
    (hQ : ∀ H', noYH H' = true → K H' → Q .norm (env.map (killV p)) H') : S .tri (.rangeFunc g ps assign body) Q env H := by
  subst hS
  intro G a w hc s
  show (Code.rangeFunc g ps assign body).wpIn (Fw none) 0 P (relX n0 G w Q) a w
  refine wpIn_rangeFunc (fun fn _ => ?_)
  have rg := rep_opd s g hokg
  rw [hg] at rg
  generalize hvf : a.eval g = vf at rg
  cases rg with
  | fn _ fs cs _ _ h1 h2 hfa hfb =>
  let r := w.heap.size
  let l := w.heap.size + 1
  let rc : Loop := { state := .ready, pending := none, fn, tmps := a.tmps, params := ps, assign, body, defers := r }
  let wa := w.alloc (.deferred (some []))
  let w1 := wa.alloc (.loop rc)
  have hwa : wa.heap.size = w.heap.size + 1 := by simp [wa]
  have hw1 : w1.heap.size = w.heap.size + 2 := by simp [w1, hwa]
  have ma : More w wa := More.alloc w _
  have m1 : More wa w1 := More.alloc wa _
  have m : More w w1 := ⟨m1.os.trans ma.os, m1.tape.trans ma.tape, m1.output.trans ma.output, Nat.le_trans ma.size m1.size, fun b hb => (m1.heap b (by omega)).trans (ma.heap b hb)⟩
  have hr1 : w1.heap[r]? = some (.deferred (some [])) := (m1.heap r (by simp only [r]; omega)).trans (heap_alloc_new w _)
  have hl1 : w1.heap[l]? = some (.loop rc) := by
    have := heap_alloc_new wa (.loop rc)
    rw [hwa] at this
    exact this
  -- the ghost of the call
  obtain ⟨sh1, le1⟩ := (s.h.ofY l hH).newKept ma (q := r) (Nat.le_refl _) (by simp only [r]; omega)
  obtain ⟨sh2, le2⟩ := sh1.newStay m1 (q := l) (by rw [hwa]; exact Nat.le_refl _) (by rw [hw1]; exact Nat.lt_succ_self _)
  have renv : RepL ((((G.ofY l).keep r)).stay l) w1 a.tmps.toList env := ((s.env.ofY l henv).mono le1).mono le2
  let Gc := (((G.ofY l).keep r).stay l)
  have hGn : Gc.n = H.length := s.h.n
  have hct := hcall (Cx.loop l Gc w1 ⟨H.length, p⟩) (Cx.loop_ok rfl) (fun args H1 J ha hl hrd => YT_of_T (rc := rc) (env0 := env) (by rw [hl]) rfl (.inl rfl) hl1 rfl rfl (by simpa [rc] using ha) (by rw [hl]; exact hGn) renv (hrd l))
  obtain ⟨hcallable, hct⟩ := hct
  have rargs : RepL Gc w1 (fs ++ #[Value.func (.yield l) #[] #[]] ++ cs).toList (first ++ [.yld] ++ cap) := by
    have r1 : RepL G w fs.toList first := ⟨by simpa using h1, fun i c x hc hx => hfa i c x (by simpa using hc) hx⟩
    have r2 : RepL G w cs.toList cap := ⟨by simpa using h2, fun i c x hc hx => hfb i c x (by simpa using hc) hx⟩
    have hnf : noY (.fn f first cap) = true := by
      rw [← hg]
      cases g with
      | tmp t =>
        simp only [opd, List.getD_eq_getElem?_getD] at hg ⊢
        cases ht : env[t]? with
        | none => rw [ht] at hg; simp at hg
        | some x => exact noYL_mem henv x (List.mem_of_getElem? ht)
      | const v => cases v <;> simp [opd, litV] at hg <;> split at hg <;> simp at hg
      | global _ => simp [opd] at hg
      | func _ => rfl
    have hno : noYL first = true ∧ noYL cap = true := by
      simp only [noY] at hnf
      cases ha : noYL first with
      | false => rw [ha] at hnf; cases hnf
      | true => rw [ha] at hnf; exact ⟨rfl, hnf⟩
    have q1 := ((r1.ofY l hno.1).mono le1).mono le2
    have q2 := ((r2.ofY l hno.2).mono le1).mono le2
    have qy : RepL Gc w1 [Value.func (.yield l) #[] #[]] [.yld] := ⟨rfl, fun i c x hc hx => by
      cases i with
      | zero => simp at hc hx; subst hc; subst hx; exact Rep.yld (G := Gc)
      | succ i => simp at hc⟩
    have := (q1.append qy).append q2
    simpa using this
  have hcl := hct Gc w1 (fs ++ #[Value.func (.yield l) #[] #[]] ++ cs) (Ext.refl _ _ _) sh2 rargs
  refine ⟨l, [{ target := .collected r, args := #[] }], w1, { target := .fn (.func f) cs, args := fs ++ #[.func (.yield l) #[] #[]] }, w1, f, _, w1, ?_, ?_, fun _ _ => trivial, ?_, fun h => (by cases h), CallsIn.mono hcl ?_⟩
  · simp [Instr.enterLoop, Fw, Fence.wide, w1, wa, rc, r, l]
  · have hcv : ∀ v, a.eval (.const v) = v := fun _ => rfl
    simp [resolve, rangeCall, hvf, Deferred.ofValue, hcv]
  · simp [invoke, run_callFunc hcallable]
  · intro e w3 he
    obtain ⟨G3, x, H3, hend, e3, s3, ⟨v, hv⟩, hno3, hK⟩ := he
    subst hv
    cases e <;> try exact hend.elim
    have hl3 : w3.heap[l]? = some (.loop rc) := (e3.kfr l (.inl rfl)).trans hl1
    have hfl3 : G3.fr l := by rw [e3.fr]; exact .inl rfl
    refine ⟨none, _, run_endLoop hl3 rfl rfl, ?_⟩
    have one4 := One.setBlock w3 l (.loop { rc with state := .exhausted })
    obtain ⟨sh4, le4⟩ := s3.record (r' := { rc with state := .exhausted }) hfl3 hl3
    generalize ChangeMaps.setBlock w3 l (.loop { rc with state := .exhausted }) = w4 at one4 sh4 le4
    have sh5 := ((sh4.ofY G.yl hno3).withFr G.fr (fun q hq => by show G3.fr q; rw [e3.fr]; exact .inr hq)).marks (r :: G.marks)
    have hlr : l ≠ r := by simp only [l, r]; omega
    have oldb : ∀ b, b < w.heap.size → (Gc.prot b ∨ Gc.fr b) → w4.heap[b]? = w.heap[b]? := fun b hb hpf => by
      rw [one4.heap b (by simp only [l]; omega)]
      rcases hpf with hp | hf
      · rw [e3.keep b hp, m.heap b hb]
      · rw [e3.kfr b hf, m.heap b hb]
    have hext : Ext n0 G w (((G3.ofY G.yl).withFr G.fr).mk' (r :: G.marks)) w4 := by
      refine ⟨fun b hb => e3.prot b (.inr hb), fun b hb => oldb b (s.h.plt b hb) (.inl (.inr hb)), by rw [one4.size]; exact Nat.le_trans m.size e3.size, (one4.os.trans e3.os).trans m.os, (one4.tape.trans e3.tape).trans m.tape, (one4.output.trans e3.output).trans m.output,
        fun k hk => e3.blk k (Nat.lt_of_lt_of_le hk hn), rfl, fun k hk hp => e3.arv k (Nat.lt_of_lt_of_le hk hn) ?_, rfl, fun b hb => oldb b (s.h.frs b hb).1 (.inr (.inr hb)), fun _ => ?_, fun D hD => ?_⟩
      · cases hpk : p k with
        | false => exact hpk
        | true => rw [hm k hk hpk] at hp; cases hp
      · exact Nat.le_trans hn (e3.len (by rw [hGn]; exact Nat.le_refl _))
      · rcases List.mem_cons.1 hD with rfl | hD
        · exact .inr (Nat.le_refl _)
        · exact .inl hD
    have renv4 : RepL (((G3.ofY G.yl).withFr G.fr).mk' (r :: G.marks)) w4 a.tmps.toList (env.map (killV p)) := by
      have lk : LeK p G w (((G3.ofY G.yl).withFr G.fr).mk' (r :: G.marks)) w4 :=
        ⟨hext.prot, fun q hq => cell_of_heap (hext.keep _ hq), by rw [s.h.n]; exact e3.len (by rw [hGn]; exact Nat.le_refl _), fun k hk => e3.blk k (by rw [s.h.n] at hk; exact hk), fun k hk hp => e3.arv k (by rw [s.h.n] at hk; exact hk) hp, rfl⟩
      rw [map_killV]
      exact s.env.kill lk
    have sim : Sim (((G3.ofY G.yl).withFr G.fr).mk' (r :: G.marks)) { a with defers := [{ target := .collected r, args := #[] }] ++ a.defers } w4 (env.map (killV p)) H3 := by
      refine ⟨sh5, renv4, ?_, fun D hD => ?_, ?_⟩
      · simp [Gh.mk', s.marks, markOf]
      · rcases List.mem_cons.1 hD with rfl | hD
        · exact ⟨by rw [one4.heap _ hlr.symm, e3.keep r (.inl rfl), hr1], e3.prot r (.inl rfl)⟩
        · obtain ⟨d1, d2⟩ := s.md D hD
          exact ⟨by rw [oldb D (s.h.plt D d2) (.inl (.inr d2))]; exact d1, e3.prot D (.inr d2)⟩
      · refine List.nodup_cons.2 ⟨fun hD => ?_, s.nd⟩
        have := s.h.plt r (s.md r hD).2
        exact Nat.lt_irrefl _ this
    exact ⟨.norm, _, _, _, trivial, hext, sim, hQ H3 hno3 hK⟩
end
end Go.Ab
