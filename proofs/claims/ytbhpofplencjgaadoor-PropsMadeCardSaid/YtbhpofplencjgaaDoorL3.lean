/- Entering a function, its results, calls; the operations' rules in the form in which a walk takes them. Conditions: none. -/
import Derived.Test.YtbhpofplencjgaaDoorL2
namespace Go.WL
open Go

/-- a call that returns -/
def FnR (P : Program) (f : FuncId) (args : Array Value) (m : Mem) (H : Hp) (R : Value → Mem → Hp → Prop) : Prop :=
  FnP P f args m H fun e m' H' => ∃ v, e = .returned v ∧ R v m' H'

theorem FnR.mono {P f args m H R R'} (h : FnR P f args m H R) (hr : ∀ v m' H', Mem.le m m' → R v m' H' → R' v m' H') : FnR P f args m H R' :=
  FnP.mono h fun _ m' H' hle ⟨v, e, r⟩ => ⟨v, e, hr v m' H' hle r⟩
theorem FnR.perm {P f args m H H' R} (hp : H'.Perm H) (h : FnR P f args m H R) : FnR P f args m H' R := FnP.perm h hp

/-- a contract of the library: the world grows, and what was there stays -/
theorem FnR.ofBelow {P f args m H} {R : Value → World → Prop} {R' : Value → Mem → Hp → Prop} (h : ∀ w, Calls P f args w fun e w' => ∃ v, e = .returned v ∧ Go.RowKit.Below w.heap.size w w' ∧ R v w')
    (hr : ∀ v w', R v w' → R' v m H) : FnR P f args m H R' :=
  fun _ w _ hok => (h w).mono fun _ w' ⟨v, e, hb, r⟩ => ⟨m, H, hok.below hb, v, e, hr v w' r⟩

def evs (env : Env) : List Operand → Option (List Value)
  | [] => some []
  | x :: r => match ev env x, evs env r with
    | some v, some vs => some (v :: vs)
    | _, _ => none

theorem Fr.evs {n a env} (h : Fr n a env) : ∀ {xs vs}, WL.evs env xs = some vs → xs.map a.eval = vs := by
  intro xs
  induction xs with
  | nil => intro vs e; simp [WL.evs] at e; simp [e]
  | cons x r ih =>
    intro vs e
    simp only [WL.evs] at e
    split at e
    · rename_i v vs' h1 h2
      cases e
      simp [h.ev h1, ih h2]
    · cases e

section
variable {P : Program} {s : Strm} {n : Nat} {Q : Exit → Env → Mem → Hp → Prop} {env : Env} {m : Mem} {H : Hp} {ops : Array Oper} {rest : List Oper}
variable {d : Option Nat} {ty : TypeId} {pos : String} {aft : Array Edge} {gd : Option (Nat × Bool)}

theorem T_call {f xs vs ts R} [hc : CallF P f] (hx : evs env xs = some vs) (h : FnR P f ⟨vs⟩ m H R) :
    OpT P s n ⟨d, .call { callee := .value (.func f), args := ⟨xs⟩, argTypes := ts }, ty, pos, aft, gd⟩ env m H R := by
  intro a w hf hok
  have hev := hf.evs hx
  have hr : (execOp a.eval ⟨d, .call { callee := .value (.func f), args := ⟨xs⟩, argTypes := ts }, ty, pos, aft, gd⟩).run P w = .ok (.enter f ⟨vs⟩) w := by
    simp [execOp, resolve, Deferred.ofValue, Act.eval, invoke, run_callFunc hc, hev]
  rw [hr]
  refine (h ⟨s.os, s.tape, s.output, m, s.size⟩ w rfl hok.rebase).mono fun e w' ⟨m', H', hok', v, he, hR⟩ => ?_
  subst he
  exact ⟨m', H', ⟨hok'.os, hok'.tape, hok'.output, hok'.size, hok.base.trans hok'.base, hok'.imm, hok'.own, hok'.sep, hok'.nd⟩, hok'.base, hR⟩

/-! the rules as a walk takes them -/
theorem blt_lt {a b : Nat} (h : Nat.blt a b = true) : a < b := by rwa [Nat.blt_eq] at h

/-- the guard lets the operation go -/
inductive GOk (ops : Array Oper) (env : Env) : Option (Nat × Bool) → Prop
  | none : GOk ops env none
  | yes {j want oj dj} (hj : ops[j]? = some oj) (hdj : oj.dst = some dj) (hb : look env dj = some (.bool want)) : GOk ops env (some (j, want))

theorem RW_go {o : Oper} {K} (hg : GOk ops env o.guard) (hd : ∀ d, o.dst = some d → d < n) (hh : OpT P s n o env m H K)
    (h : ∀ v m' H', Mem.le m m' → K v m' H' → RW P s n ops Q rest (putE o.dst v env) m' H') : RW P s n ops Q (o :: rest) env m H := by
  generalize e : o.guard = g at hg
  cases hg with
  | none => exact RW_op e hd hh h
  | yes hj hdj hb => exact RW_guard e hj hdj hb hd hh h

theorem RW_same {d op v} (hd : Nat.blt d n = true) (hg : GOk ops env gd) (hh : OpP P s n ⟨some d, op, ty, pos, aft, gd⟩ env m H v) (h : RW P s n ops Q rest ((d, v) :: env) m H) :
    RW P s n ops Q (⟨some d, op, ty, pos, aft, gd⟩ :: rest) env m H :=
  RW_go hg (fun _ e => by cases e; exact blt_lt hd) hh.T fun _ _ _ _ ⟨e1, e2, e3⟩ => by subst e1; subst e2; subst e3; exact h
theorem RW_box {d op E l} (hd : Nat.blt d n = true) (hg : GOk ops env gd) (hh : OpT P s n ⟨some d, op, ty, pos, aft, gd⟩ env m H fun v' m' H' => ∃ b, v' = .pointer (some ⟨b, 0, none⟩) ∧ m' = m ∧ H' = (b, box E l) :: H)
    (h : ∀ b : Nat, RW P s n ops Q rest ((d, .pointer (some ⟨b, 0, none⟩)) :: env) m ((b, box E l) :: H)) :
    RW P s n ops Q (⟨some d, op, ty, pos, aft, gd⟩ :: rest) env m H :=
  RW_go hg (fun _ e => by cases e; exact blt_lt hd) hh fun _ _ _ _ ⟨b, e1, e2, e3⟩ => by subst e1; subst e2; subst e3; exact h b
theorem RW_st {op H'} (hg : GOk ops env gd) (hh : OpT P s n ⟨none, op, ty, pos, aft, gd⟩ env m H (same undef m H')) (h : RW P s n ops Q rest env m H') :
    RW P s n ops Q (⟨none, op, ty, pos, aft, gd⟩ :: rest) env m H :=
  RW_go hg (fun _ e => by cases e) hh fun _ _ _ _ ⟨_, e2, e3⟩ => by subst e2; subst e3; exact h
theorem RW_call {d f xs vs ts R} [CallF P f] (hd : Nat.blt d n = true) (hg : GOk ops env gd) (hx : evs env xs = some vs) (hh : FnR P f ⟨vs⟩ m H R)
    (h : ∀ v m' H', Mem.le m m' → R v m' H' → RW P s n ops Q rest ((d, v) :: env) m' H') :
    RW P s n ops Q (⟨some d, .call { callee := .value (.func f), args := ⟨xs⟩, argTypes := ts }, ty, pos, aft, gd⟩ :: rest) env m H :=
  RW_go hg (fun _ e => by cases e; exact blt_lt hd) (T_call hx hh) fun v m' H' hle hR => h v m' H' hle hR
theorem RW_any {d op K} (hd : Nat.blt d n = true) (hg : GOk ops env gd) (hh : OpT P s n ⟨some d, op, ty, pos, aft, gd⟩ env m H K) (h : ∀ v m' H', Mem.le m m' → K v m' H' → RW P s n ops Q rest ((d, v) :: env) m' H') :
    RW P s n ops Q (⟨some d, op, ty, pos, aft, gd⟩ :: rest) env m H :=
  RW_go hg (fun _ e => by cases e; exact blt_lt hd) hh fun v m' H' hle hk => h v m' H' hle hk

/-- an operation under a guard that says no -/
theorem RW_no {d op j want b oj dj} (hd : Nat.blt d n = true) (hj : ops[j]? = some oj) (hdj : oj.dst = some dj) (hb : look env dj = some (.bool b)) (hne : b = !want)
    (h : RW P s n ops Q rest ((d, undef) :: env) m H) : RW P s n ops Q (⟨some d, op, ty, pos, aft, some (j, want)⟩ :: rest) env m H :=
  RW_skip rfl hj hdj hb (by subst hne; cases want <;> simp) (fun _ e => by cases e; exact blt_lt hd) h

/-- a slot's truth is parted -/
theorem Fr.again {a env d v} (h : Fr n a env) (hv : look env d = some v) : Fr n a ((d, v) :: env) := by
  refine ⟨h.defers, h.size, fun i u hi => ?_⟩
  by_cases e : d = i
  · subst e
    rw [look_cons_self] at hi
    cases hi
    exact h.get _ _ hv
  · rw [look_cons_ne _ _ e] at hi
    exact h.get _ _ hi
theorem RW_part (d : Nat) {b : Bool} (hb : look env d = some (.bool b)) (h1 : b = true → RW P s n ops Q rest ((d, .bool true) :: env) m H) (h2 : b = false → RW P s n ops Q rest ((d, .bool false) :: env) m H) :
    RW P s n ops Q rest env m H := fun a w hf hok => by
  cases b
  · exact h2 rfl a w (hf.again hb) hok
  · exact h1 rfl a w (hf.again hb) hok
theorem RW_partd (d : Nat) {p : Prop} [Decidable p] (hb : look env d = some (.bool (decide p))) (h1 : p → RW P s n ops Q rest ((d, .bool true) :: env) m H) (h2 : ¬ p → RW P s n ops Q rest ((d, .bool false) :: env) m H) :
    RW P s n ops Q rest env m H := RW_part d hb (fun e => h1 (of_decide_eq_true e)) (fun e => h2 (of_decide_eq_false e))
theorem RW_partn (d : Nat) {p : Prop} [Decidable p] (hb : look env d = some (.bool (!decide p))) (h1 : ¬ p → RW P s n ops Q rest ((d, .bool true) :: env) m H) (h2 : p → RW P s n ops Q rest ((d, .bool false) :: env) m H) :
    RW P s n ops Q rest env m H := RW_part d hb (fun e => h1 (by simpa using e)) (fun e => h2 (by simpa using e))
end

/-! ## A body -/
inductive ResV (P : Program) (env : Env) (m : Mem) (H : Hp) : ResultVar → Value → Prop
  | tmp {t v} (h : look env t = some v) : ResV P env m H (.tmp t) v
  | cell {a T b off sz v} (hT : Ty P T false sz) (hx : look env a = some (.pointer (some ⟨b, off, none⟩))) (h : At m H b off v) : ResV P env m H (.cell a T) v
  | cellA {a T b off sz l} (hT : Ty P T true sz) (hx : look env a = some (.pointer (some ⟨b, off, none⟩))) (h : Ats m H b off l) (hl : l.length = sz) : ResV P env m H (.cell a T) (.agg ⟨l⟩)

inductive ResVs (P : Program) (env : Env) (m : Mem) (H : Hp) : List ResultVar → List Value → Prop
  | nil : ResVs P env m H [] []
  | cons {r v rs vs} (h : ResV P env m H r v) (hs : ResVs P env m H rs vs) : ResVs P env m H (r :: rs) (v :: vs)

def tupleOf : List Value → Value
  | [v] => v
  | vs => .tuple ⟨vs⟩

def resSem (tmps : Array Value) : ResultVar → Sem Value
  | .tmp t => pure (tmps.getD t undef)
  | .cell x t => do loadVar t (← asAddr (tmps.getD x undef))

theorem run_resV {P s n a env m H w r v} (hf : Fr n a env) (hok : Ok s w m H) (h : ResV P env m H r v) : (resSem a.tmps r).run P w = .ok v w := by
  cases h with
  | tmp h => have := hf.get _ _ h; simp [resSem, this]
  | cell hT hx h => have := hf.get _ _ hx; simp [resSem, this, asAddr, loadVar, run_isAgg hT, h.cell hok]
  | @cellA x T b off sz l hT hx h hl =>
    have := hf.get _ _ hx
    have h2 := run_loadCells_list (P := P) w ⟨b, off, none⟩ l (fun j v hj => by
      rw [Addr.add_lit]
      exact (h j v hj).cell hok)
    subst hl
    simp [resSem, this, asAddr, loadVar, run_isAgg hT, run_sizeOf hT, h2]

theorem run_mapM_list {P : Program} {α : Type} (g : α → Sem Value) (w : World) : ∀ (l : List α) (vs : List Value), l.length = vs.length → (∀ (j : Nat) x v, l[j]? = some x → vs[j]? = some v → (g x).run P w = .ok v w) →
    (l.mapM g).run P w = .ok vs w := by
  intro l
  induction l with
  | nil => intro vs hl _; simp at hl; simp [List.length_eq_zero_iff.1 hl.symm]
  | cons x r ih =>
    intro vs hl h
    cases vs with
    | nil => simp at hl
    | cons v vs =>
      have h1 := h 0 x v rfl rfl
      have h2 := ih vs (by simpa using hl) (fun j y u hj hu => h (j + 1) y u (by simpa using hj) (by simpa using hu))
      simp [List.mapM_cons, h1, h2]

theorem ResVs.len {P env m H rs vs} (h : ResVs P env m H rs vs) : rs.length = vs.length := by induction h <;> simp_all
theorem ResVs.get {P env m H rs vs} (h : ResVs P env m H rs vs) : ∀ (j : Nat) r v, rs[j]? = some r → vs[j]? = some v → ResV P env m H r v := by
  induction h with
  | nil => intro j r v hj; simp at hj
  | cons h hs ih =>
    intro j r v hj hv
    cases j with
    | zero => simp at hj hv; subst hj; subst hv; exact h
    | succ j => exact ih j r v (by simpa using hj) (by simpa using hv)

theorem run_results {P s n a env m H w rs vs} {fn : Func} (hf : Fr n a env) (hok : Ok s w m H) (hr : fn.results = ⟨rs⟩) (h : ResVs P env m H rs vs) :
    (results fn a.tmps).run P w = .ok (tupleOf vs) w := by
  have h2 := run_mapM_list (P := P) (resSem a.tmps) w rs vs h.len (fun j x v hj hv => run_resV hf hok (h.get j x v hj hv))
  have h3 : results fn a.tmps = (do
      let vs ← fn.results.mapM (resSem a.tmps)
      pure (if h : vs.size = 1 then vs[0] else .tuple vs)) := by
    unfold results
    congr 1
  rw [h3, hr, Sem.run_bind, List.mapM_toArray, Sem.run_map, h2]
  simp only [Result.andThen_ok]
  rcases vs with _ | ⟨v, _ | ⟨u, vs⟩⟩ <;> simp [tupleOf]

def bodyQ (P : Program) (fn : Func) (R : Ending → Mem → Hp → Prop) : Exit → Env → Mem → Hp → Prop
  | .normal, env, m, H | .ret, env, m, H => ∃ rs vs, fn.results = ⟨rs⟩ ∧ ResVs P env m H rs vs ∧ R (.returned (tupleOf vs)) m H
  | .panic ch, _, m, H => R (.panicked ch) m H
  | _, _, _, _ => False

def penv : Nat → List Value → Env
  | _, [] => []
  | i, v :: r => (i, v) :: penv (i + 1) r

theorem look_penv : ∀ (vs : List Value) (k i : Nat) (v : Value), look (penv k vs) i = some v → k ≤ i ∧ vs[i - k]? = some v := by
  intro vs
  induction vs with
  | nil => intro k i v h; simp [penv, look] at h
  | cons u r ih =>
    intro k i v h
    by_cases e : k = i
    · subst e
      simp [penv, look] at h
      simp [h]
    · rw [show penv k (u :: r) = (k, u) :: penv (k + 1) r from rfl, look_cons_ne _ _ e] at h
      obtain ⟨h1, h2⟩ := ih (k + 1) i v h
      refine ⟨by omega, ?_⟩
      rw [show i - k = (i - (k + 1)) + 1 by omega]
      simpa using h2

section
variable {P : Program} {f : FuncId} {fn : Func} {c : Code} {n : Nat} {m : Mem} {H : Hp}
theorem FnP.enter {vs : List Value} {R : Ending → Mem → Hp → Prop} (hf : P.funcs[f]? = some fn) (hb : fn.body = some c) (hn : fn.ntmps = n) (hl : Nat.ble vs.length n = true)
    (h : ∀ s, CW P s n c (bodyQ P fn R) (penv 0 vs) m H) : FnP P f ⟨vs⟩ m H R := by
  intro s w hs hok
  have hl' : vs.length ≤ n := by rwa [Nat.ble_eq] at hl
  refine calls_of_wp hf hb (wp_mono (h s _ w ⟨rfl, ?_, ?_⟩ hok) ?_)
  · simp [hn]; omega
  · intro i v hi
    obtain ⟨_, h2⟩ := look_penv vs 0 i v hi
    simp at h2
    have hlt : i < vs.length := (List.getElem?_eq_some_iff.1 h2).1
    rw [Array.getElem?_append_left (by simpa using hlt)]
    simpa using h2
  · intro e a' w' ⟨env', m', H', hf', hok', hq⟩
    cases e with
    | normal =>
      obtain ⟨rs, vs, hr, hv, hR⟩ := hq
      exact ⟨hf'.defers, _, run_results hf' hok' hr hv, m', H', hok', hR⟩
    | ret =>
      obtain ⟨rs, vs, hr, hv, hR⟩ := hq
      exact ⟨hf'.defers, _, run_results hf' hok' hr hv, m', H', hok', hR⟩
    | panic ch => exact ⟨hf'.defers, m', H', hok', hq⟩
    | exit id => exact hq.elim
    | goto l => exact hq.elim
    | outgrown => exact hq.elim

/-- what a body that returns comes to: of what is owned, some may be let go -/
def retQ (R : Value → Mem → Hp → Prop) : Ending → Mem → Hp → Prop := fun e m' H' => ∃ v, e = .returned v ∧ ∃ H1 L, H'.Perm (L ++ H1) ∧ R v m' H1

theorem FnR.enter {vs : List Value} {R : Value → Mem → Hp → Prop} (hf : P.funcs[f]? = some fn) (hb : fn.body = some c) (hn : fn.ntmps = n) (hl : Nat.ble vs.length n = true)
    (h : ∀ s, CW P s n c (bodyQ P fn (retQ R)) (penv 0 vs) m H) : FnR P f ⟨vs⟩ m H R := fun s w hs hok =>
  (FnP.enter hf hb hn hl h s w hs hok).mono fun _ _ ⟨m', _, ok, v, e, H1, L, hp, r⟩ => ⟨m', H1, (ok.perm hp).drop L, v, e, r⟩

variable {env : Env} {R : Value → Mem → Hp → Prop}
theorem perm_of_sub {H H' : Hp} (hs : H'.Sublist H) : ∃ L, H.Perm (L ++ H') := by
  obtain ⟨L, h⟩ := hs.exists_perm_append
  exact ⟨L, h.trans List.perm_append_comm⟩
/-- the end of a body -/
theorem ret_r {rs vs} (H' : Hp) (hr : fn.results = ⟨rs⟩) (hv : ResVs P env m H rs vs) (hs : H'.Sublist H) (h : R (tupleOf vs) m H') : bodyQ P fn (retQ R) .ret env m H := by
  obtain ⟨L, hp⟩ := perm_of_sub hs
  exact ⟨rs, vs, hr, hv, _, rfl, H', L, hp, h⟩
theorem ret_n {rs vs} (H' : Hp) (hr : fn.results = ⟨rs⟩) (hv : ResVs P env m H rs vs) (hs : H'.Sublist H) (h : R (tupleOf vs) m H') : bodyQ P fn (retQ R) .normal env m H := by
  obtain ⟨L, hp⟩ := perm_of_sub hs
  exact ⟨rs, vs, hr, hv, _, rfl, H', L, hp, h⟩
theorem ret_rp {rs vs} (L H' : Hp) (hr : fn.results = ⟨rs⟩) (hv : ResVs P env m H rs vs) (hp : H.Perm (L ++ H')) (h : R (tupleOf vs) m H') : bodyQ P fn (retQ R) .ret env m H :=
  ⟨rs, vs, hr, hv, _, rfl, H', L, hp, h⟩
theorem ret_np {rs vs} (L H' : Hp) (hr : fn.results = ⟨rs⟩) (hv : ResVs P env m H rs vs) (hp : H.Perm (L ++ H')) (h : R (tupleOf vs) m H') : bodyQ P fn (retQ R) .normal env m H :=
  ⟨rs, vs, hr, hv, _, rfl, H', L, hp, h⟩
end
end Go.WL
