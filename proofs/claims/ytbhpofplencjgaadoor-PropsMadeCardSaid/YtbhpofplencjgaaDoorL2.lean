/- The operations of the logic, one rule for each kind. Conditions: none. -/
import Derived.Test.YtbhpofplencjgaaDoorL1
namespace Go.WL
open Go

/-! ## Types -/
def isAggD : TypeDesc → Bool
  | .struct _ | .array _ _ => true
  | _ => false

/-- type T: is it an aggregate, of how many cells -/
class Ty (P : Program) (T : TypeId) (agg : outParam Bool) (sz : outParam Nat) : Prop where
  h : (P.info? T).bind (fun i => (P.underlying T).map (fun d => (isAggD d, i.size))) = some (agg, sz)

/-- type T's zero value -/
class Zr (P : Program) (T : TypeId) (z : outParam (List Value)) : Prop where
  h : (P.info? T).bind (fun i => i.zero.map (fun v => v.cells)) = some ⟨z⟩

/-- T is a slice type over E, of so many cells and bytes -/
class SlT (P : Program) (T : TypeId) (E : outParam TypeId) (sz by_ : outParam Nat) : Prop where
  u : P.underlying T = some (.slice E)
  i : (P.info? E).map (fun i => (i.size, i.bytes)) = some (sz, by_)

/-- the struct type S has field f at an offset -/
class FdT (P : Program) (S f : Nat) (off : outParam Nat) : Prop where
  h : (match P.underlying S with
    | some (.struct fs) => (fs[f]?).bind (fun x => (P.info? x.type).map (fun i => (x.offset, decide (i.size = 0))))
    | _ => none) = some (off, false)

/-- the struct type S's fields: where each is, of how many cells -/
class FdsT (P : Program) (S : Nat) (pl : outParam (List (Nat × Nat))) : Prop where
  h : (match P.underlying S with
    | some (.struct fs) => fs.toList.mapM (fun x => (P.info? x.type).map (fun i => (x.offset, i.size)))
    | _ => none) = some pl

/-- f is a function with a body -/
class CallF (P : Program) (f : FuncId) : Prop where
  h : (P.funcs[f]?).map (fun fn => (fn.name == "runtime.NumGoroutine", fn.body.isNone)) = some (false, false)

section
variable {P : Program}

theorem Ty.parts {T agg sz} (t : Ty P T agg sz) : ∃ i d, P.info? T = some i ∧ P.underlying T = some d ∧ isAggD d = agg ∧ i.size = sz := by
  have := t.h
  cases hi : P.info? T with
  | none => simp [hi] at this
  | some i =>
    cases hd : P.underlying T with
    | none => simp [hi, hd] at this
    | some d => simp [hi, hd] at this; exact ⟨i, d, rfl, rfl, this.1, this.2⟩

theorem run_isAgg {T agg sz} (t : Ty P T agg sz) (w : World) : (isAgg T).run P w = .ok agg w := by
  obtain ⟨i, d, hi, hd, ha, hs⟩ := t.parts
  cases d <;> simp [isAgg, run_underlying hd, isAggD] at ha ⊢ <;> simp [ha]

theorem run_sizeOf {T agg sz} (t : Ty P T agg sz) (w : World) : (sizeOf T).run P w = .ok sz w := by
  obtain ⟨i, d, hi, hd, ha, hs⟩ := t.parts
  simp [sizeOf, typeInfo, hi, hs]

theorem run_zeroValue {T z} (t : Zr P T z) (w : World) : ∃ v, (zeroValue T).run P w = .ok v w ∧ v.cells = ⟨z⟩ := by
  have := t.h
  cases hi : P.info? T with
  | none => simp [hi] at this
  | some i =>
    cases hz : i.zero with
    | none => simp [hi, hz] at this
    | some v => simp [hi, hz] at this; exact ⟨v, by simp [zeroValue, typeInfo, hi, hz], this⟩

theorem SlT.parts {T E sz by_} (t : SlT P T E sz by_) : ∃ i, P.info? E = some i ∧ i.size = sz ∧ i.bytes = by_ := by
  obtain ⟨i, h1, h2⟩ := Option.map_eq_some_iff.1 t.i
  simp only [Prod.mk.injEq] at h2
  exact ⟨i, h1, h2.1, h2.2⟩

theorem run_callFunc {f : FuncId} (c : CallF P f) (args : Array Value) (w : World) : (callFunc f args).run P w = .ok (.enter f args) w := by
  have := c.h
  cases hf : P.funcs[f]? with
  | none => simp [hf] at this
  | some fn =>
    simp only [hf, Option.map_some, Option.some.injEq, Prod.mk.injEq] at this
    unfold callFunc
    rw [Sem.run_bind, run_program]
    simp only [Result.andThen_ok, hf, this.1, this.2, Bool.false_eq_true, if_false, Sem.run_pure]

theorem run_fieldPlace {S f off} (d : FdT P S f off) (b o : Nat) (w : World) :
    (Instr.fieldAt S (.pointer (some ⟨b, o, none⟩)) f).run P w = .ok (.pointer (some ⟨b, o + off, none⟩)) w := by
  have h := d.h
  split at h
  · rename_i fs hu
    cases hf : fs[f]? with
    | none => simp [hf] at h
    | some x =>
      simp only [hf, Option.bind_some] at h
      cases hi : P.info? x.type with
      | none => simp [hi] at h
      | some i =>
        simp [hi] at h
        simp [Instr.fieldAt, run_underlying hu, hf, Instr.sureAddr, fieldPlace, sizeOf, typeInfo, hi, h.2, h.1, Addr.add_lit]
  · cases h
end

/-! ## One operation -/
section
variable {P : Program} {s : Strm} {n : Nat} {Q : Exit → Env → Mem → Hp → Prop} {env : Env} {m : Mem} {H : Hp} {ops : Array Oper} {rest : List Oper}

/-- what comes of an operation, by its value -/
def upV (P : Program) (next : Value → World → Prop) : Result Next → Prop
  | .ok (.value v) w' => next v w'
  | .ok .skip w' => next undef w'
  | .ok (.enter f args) w' => Calls P f args w' fun
      | .returned v, w'' => next v w''
      | _, _ => False
  | _ => False

theorem upV.mono {next next' : Value → World → Prop} {r : Result Next} (h : upV P next r) (hn : ∀ v w', next v w' → next' v w') : upV P next' r := by
  cases r with
  | halt x w => exact h
  | ok x w =>
    cases x <;> first | exact hn _ _ h | exact h | (refine Calls.mono h ?_; intro e w' he; cases e <;> first | exact hn _ _ he | exact he)

theorem upV.upon {next : Value → World → Prop} {r : Result Next} {o : Oper} {a : Act} {K : Act → World → Prop} {Q : Exit → Act → World → Prop}
    (h : upV P next r) (hn : ∀ v w', next v w' → K (a.put o.dst v) w') : o.upon P a K Q r := by
  cases r with
  | halt x w => exact h.elim
  | ok x w =>
    cases x <;> first | exact hn _ _ h | exact h.elim | (refine Calls.mono h ?_; intro e w' he; cases e <;> first | exact hn _ _ he | exact he.elim)

/-- what one operation does: it comes to a value and a memory of which K holds -/
def OpT (P : Program) (s : Strm) (n : Nat) (o : Oper) (env : Env) (m : Mem) (H : Hp) (K : Value → Mem → Hp → Prop) : Prop :=
  ∀ a w, Fr n a env → Ok s w m H → upV P (fun v w' => ∃ m' H', Ok s w' m' H' ∧ Mem.le m m' ∧ K v m' H') ((execOp a.eval o).run P w)

/-- an operation that only reckons, or reads -/
def OpP (P : Program) (s : Strm) (n : Nat) (o : Oper) (env : Env) (m : Mem) (H : Hp) (v : Value) : Prop :=
  ∀ a w, Fr n a env → Ok s w m H → (execOp a.eval o).run P w = .ok (.value v) w

theorem OpT.wp {o : Oper} {K} (h : OpT P s n o env m H K) {a w} {next : Act → World → Prop} {Q : Exit → Act → World → Prop} (hf : Fr n a env) (hok : Ok s w m H)
    (hn : ∀ v w' m' H', Ok s w' m' H' → Mem.le m m' → K v m' H' → next (a.put o.dst v) w') : o.wp P a w next Q :=
  (h a w hf hok).upon fun v w' ⟨m', H', ok, le, k⟩ => hn v w' m' H' ok le k

def putE (d : Option Nat) (v : Value) (env : Env) : Env := match d with | some d => (d, v) :: env | none => env

theorem RW_op {o : Oper} {K} (hg : o.guard = none) (hd : ∀ d, o.dst = some d → d < n) (hh : OpT P s n o env m H K)
    (h : ∀ v m' H', Mem.le m m' → K v m' H' → RW P s n ops Q rest (putE o.dst v env) m' H') : RW P s n ops Q (o :: rest) env m H := by
  intro a w hf hok
  refine wpList_plain hg fun K' hK => hh.wp hf hok fun v w' m' H' hok' hle hk => hK _ _ ?_
  refine h v m' H' hle hk _ w' ?_ hok'
  cases e : o.dst with
  | none => exact hf
  | some d => exact hf.put (hd d e) v

theorem RW_skip {o : Oper} {j : Nat} {want b : Bool} {oj : Oper} {dj : Nat} (hg : o.guard = some (j, want)) (hj : ops[j]? = some oj) (hdj : oj.dst = some dj) (hb : look env dj = some (.bool b)) (hne : b ≠ want)
    (hd : ∀ d, o.dst = some d → d < n) (h : RW P s n ops Q rest (putE o.dst undef env) m H) : RW P s n ops Q (o :: rest) env m H := by
  intro a w hf hok
  refine wpList_step fun K' hK => ?_
  have hy : yielded ops a.tmps j = some b := by
    have := hf.get dj _ hb
    simp [yielded, hj, hdj, this]
  have hw : Region.wanted o (yielded ops a.tmps) = false := by
    simp only [Region.wanted, hg, hy]
    simpa using hne
  rw [hw]
  simp only [Bool.false_eq_true, if_false]
  refine hK _ _ (h _ w ?_ hok)
  cases e : o.dst with
  | none => exact hf
  | some d => exact hf.put (hd d e) undef

theorem RW_guard {o : Oper} {j : Nat} {want : Bool} {oj : Oper} {dj : Nat} {K} (hg : o.guard = some (j, want)) (hj : ops[j]? = some oj) (hdj : oj.dst = some dj) (hb : look env dj = some (.bool want))
    (hd : ∀ d, o.dst = some d → d < n) (hh : OpT P s n o env m H K)
    (h : ∀ v m' H', Mem.le m m' → K v m' H' → RW P s n ops Q rest (putE o.dst v env) m' H') : RW P s n ops Q (o :: rest) env m H := by
  intro a w hf hok
  refine wpList_step fun K' hK => ?_
  have hy : yielded ops a.tmps j = some want := by
    have := hf.get dj _ hb
    simp [yielded, hj, hdj, this]
  have hw : Region.wanted o (yielded ops a.tmps) = true := by
    simp only [Region.wanted, hg, hy]
    simp
  rw [hw]
  simp only [if_true]
  refine hh.wp hf hok fun v w' m' H' hok' hle hk => hK _ _ ?_
  refine h v m' H' hle hk _ w' ?_ hok'
  cases e : o.dst with
  | none => exact hf
  | some d => exact hf.put (hd d e) v

theorem RW_nil (h : Q .normal env m H) : RW P s n ops Q [] env m H := fun _ _ hf hok => ⟨_, _, _, hf, hok, h⟩

abbrev same (v : Value) (m : Mem) (H : Hp) : Value → Mem → Hp → Prop := fun v' m' H' => v' = v ∧ m' = m ∧ H' = H

theorem OpP.T {o : Oper} {v : Value} (h : OpP P s n o env m H v) : OpT P s n o env m H (same v m H) := fun a w hf hok => by
  rw [h a w hf hok]
  exact ⟨m, H, hok, Mem.le.refl m, rfl, rfl, rfl⟩

theorem OpT.run {o : Oper} {K} (h : ∀ a w, Fr n a env → Ok s w m H → ∃ v w' m' H', (execOp a.eval o).run P w = .ok (.value v) w' ∧ Ok s w' m' H' ∧ Mem.le m m' ∧ K v m' H') :
    OpT P s n o env m H K := by
  intro a w hf hok
  obtain ⟨v, w', m', H', hr, hok', hle, hK⟩ := h a w hf hok
  rw [hr]
  exact ⟨m', H', hok', hle, hK⟩

theorem OpT.skip {o : Oper} {m' H'} (h : ∀ a w, Fr n a env → Ok s w m H → ∃ w', (execOp a.eval o).run P w = .ok .skip w' ∧ Ok s w' m' H') (hle : Mem.le m m') :
    OpT P s n o env m H fun v m1 H1 => v = undef ∧ m1 = m' ∧ H1 = H' := by
  intro a w hf hok
  obtain ⟨w', hr, hok'⟩ := h a w hf hok
  rw [hr]
  exact ⟨m', H', hok', hle, rfl, rfl, rfl⟩

theorem OpT.mono {o : Oper} {K K'} (h : OpT P s n o env m H K) (hk : ∀ v m' H', Mem.le m m' → K v m' H' → K' v m' H') : OpT P s n o env m H K' :=
  fun a w hf hok => (h a w hf hok).mono fun v _ ⟨m', H', ok, le, k⟩ => ⟨m', H', ok, le, hk v m' H' le k⟩

section
variable {d : Option Nat} {ty : TypeId} {pos : String} {aft : Array Edge} {gd : Option (Nat × Bool)}

theorem T_move {x v} (hx : ev env x = some v) : OpP P s n ⟨d, .move x, ty, pos, aft, gd⟩ env m H (v) :=
  fun a w hf _ => by simp [execOp, hf.ev hx]
theorem T_assign {x v} (hx : ev env x = some v) : OpP P s n ⟨d, .assign x, ty, pos, aft, gd⟩ env m H (v) :=
  fun a w hf _ => by simp [execOp, hf.ev hx]
theorem T_pickT {c x y v} (hc : ev env c = some (.bool true)) (h1 : ev env x = some v) : OpP P s n ⟨d, .pick c x y, ty, pos, aft, gd⟩ env m H (v) :=
  fun a w hf _ => by simp [execOp, hf.ev hc, hf.ev h1, asBool]
theorem T_pickF {c x y v} (hc : ev env c = some (.bool false)) (h1 : ev env y = some v) : OpP P s n ⟨d, .pick c x y, ty, pos, aft, gd⟩ env m H (v) :=
  fun a w hf _ => by simp [execOp, hf.ev hc, hf.ev h1, asBool]
theorem T_extract {x vs i v} (hx : ev env x = some (.tuple ⟨vs⟩)) (hv : vs[i]? = some v) : OpP P s n ⟨d, .extract x i, ty, pos, aft, gd⟩ env m H (v) :=
  fun a w hf _ => by simp [execOp, hf.ev hx, Instr.extract, hv]
theorem T_nilCheck {x a0} (hx : ev env x = some (.pointer (some a0))) : OpP P s n ⟨d, .nilCheck x, ty, pos, aft, gd⟩ env m H ((.pointer (some a0))) :=
  fun a w hf _ => by simp [execOp, hf.ev hx]
theorem T_fieldAddr {S x b o f off} [hT : FdT P S f off] (hx : ev env x = some (.pointer (some ⟨b, o, none⟩))) :
    OpP P s n ⟨d, .fieldAddr S x f, ty, pos, aft, gd⟩ env m H ((.pointer (some ⟨b, o + off, none⟩))) :=
  fun a w hf _ => by simp [execOp, hf.ev hx, run_fieldPlace hT]
theorem T_not {x t T} (hx : ev env x = some (.bool t)) : OpP P s n ⟨d, .unOp .not T x, ty, pos, aft, gd⟩ env m H ((.bool (!t))) :=
  fun a w hf _ => by simp [execOp, hf.ev hx, Op.unary]
theorem T_neg {x k i T} (hx : ev env x = some (.int k i)) : OpP P s n ⟨d, .unOp .neg T x, ty, pos, aft, gd⟩ env m H ((.int k (k.wrap (-i)))) :=
  fun a w hf _ => by simp [execOp, hf.ev hx, Op.unary, Op.intArith]

/-- the result of an operation between two -/
def BinR (P : Program) (op : BinOp) (t : TypeId) (x y : Operand) (vx vy v : Value) : Prop :=
  ∀ w, (do eqGuard op t x y vx vy; binOp op t vx vy).run P w = .ok v w

theorem T_bin {op t x y t' vx vy v} (hx : ev env x = some vx) (hy : ev env y = some vy) (hb : BinR P op t x y vx vy v) :
    OpP P s n ⟨d, .binOp op t x y t', ty, pos, aft, gd⟩ env m H (v) :=
  fun a w hf _ => by
    have := hb w
    simp only [execOp, hf.ev hx, hf.ev hy]
    rw [Sem.run_bind, this]
    rfl

section
variable {t : TypeId} {x y : Operand} {a b : Int} {k : IntKind}
theorem BinR.addw : BinR P .add t x y (.int k a) (.int k b) (.int k (k.wrap (a + b))) := fun w => by simp [eqGuard_add, binOp_add, Op.intArith]
theorem BinR.subw : BinR P .sub t x y (.int k a) (.int k b) (.int k (k.wrap (a - b))) := fun w => by simp [eqGuard_sub, binOp_sub, Op.intArith]
theorem BinR.mulw : BinR P .mul t x y (.int k a) (.int k b) (.int k (k.wrap (a * b))) := fun w => by simp [eqGuard_mul, binOp_mul, Op.intArith]
theorem wrap_i64 {i : Int} (h1 : -9223372036854775808 ≤ i) (h2 : i ≤ 9223372036854775807) : IntKind.i64.wrap i = i := IntWalk.i64_in _ ⟨h1, h2⟩
theorem BinR.add (h : -9223372036854775808 ≤ a + b ∧ a + b ≤ 9223372036854775807) : BinR P .add t x y (.int .i64 a) (.int .i64 b) (.int .i64 (a + b)) := by
  have := @BinR.addw P t x y a b .i64; rwa [wrap_i64 h.1 h.2] at this
theorem BinR.sub (h : -9223372036854775808 ≤ a - b ∧ a - b ≤ 9223372036854775807) : BinR P .sub t x y (.int .i64 a) (.int .i64 b) (.int .i64 (a - b)) := by
  have := @BinR.subw P t x y a b .i64; rwa [wrap_i64 h.1 h.2] at this
theorem BinR.mul (h : -9223372036854775808 ≤ a * b ∧ a * b ≤ 9223372036854775807) : BinR P .mul t x y (.int .i64 a) (.int .i64 b) (.int .i64 (a * b)) := by
  have := @BinR.mulw P t x y a b .i64; rwa [wrap_i64 h.1 h.2] at this
theorem BinR.quow (h : b ≠ 0) : BinR P .quo t x y (.int k a) (.int k b) (.int k (k.wrap (a.tdiv b))) := fun w => by simp [eqGuard_quo, binOp_quo, Op.intDiv, h]
theorem BinR.remw (h : b ≠ 0) : BinR P .rem t x y (.int k a) (.int k b) (.int k (a.tmod b)) := fun w => by simp [eqGuard_rem, binOp_rem, Op.intDiv, h]
/-- of numbers from 0 on -/
theorem BinR.quo (ha : 0 ≤ a) (ha' : a ≤ 9223372036854775807) (h : 0 < b) : BinR P .quo t x y (.int .i64 a) (.int .i64 b) (.int .i64 (a / b)) := by
  have h1 : a.tdiv b = a / b := Int.tdiv_eq_ediv_of_nonneg ha
  have h2 : 0 ≤ a / b := Int.ediv_nonneg ha (by omega)
  have h3 : a / b ≤ a := Int.ediv_le_self b ha
  have := @BinR.quow P t x y a b .i64 (by omega); rwa [h1, wrap_i64 (by omega) (by omega)] at this
theorem BinR.rem (ha : 0 ≤ a) (h : 0 < b) : BinR P .rem t x y (.int k a) (.int k b) (.int k (a % b)) := by
  have h1 : a.tmod b = a % b := Int.tmod_eq_emod_of_nonneg ha
  have := @BinR.remw P t x y a b k (by omega); rwa [h1] at this
theorem BinR.lss : BinR P .lss t x y (.int k a) (.int k b) (.bool (decide (a < b))) := fun w => by simp [eqGuard_lss, binOp_lss]
theorem BinR.leq : BinR P .leq t x y (.int k a) (.int k b) (.bool (decide (a ≤ b))) := fun w => by simp [eqGuard_leq, binOp_leq]
theorem BinR.gtr : BinR P .gtr t x y (.int k a) (.int k b) (.bool (decide (b < a))) := fun w => by simp [eqGuard_gtr, binOp_gtr]
theorem BinR.geq : BinR P .geq t x y (.int k a) (.int k b) (.bool (decide (b ≤ a))) := fun w => by simp [eqGuard_geq, binOp_geq]
theorem BinR.eql : BinR P .eql t x y (.int k a) (.int k b) (.bool (decide (a = b))) := fun w => by
  simp only [eqGuard_at_int, binOp_eql]; simp; by_cases h : a = b <;> simp [h]
theorem BinR.neq : BinR P .neq t x y (.int k a) (.int k b) (.bool (!decide (a = b))) := fun w => by
  simp only [eqGuard_at_int, binOp_neq]; simp; by_cases h : a = b <;> simp [h]
theorem toList_beq (p q : ByteArray) : (p.toList == q.toList) = decide (p = q) := by
  rw [Bool.eq_iff_iff]; simp
  constructor
  · intro h
    have h2 : p.data.toList = q.data.toList := by rwa [ByteArray.toList_eq, ByteArray.toList_eq] at h
    exact ByteArray.ext (Array.toList_inj.1 h2)
  · rintro rfl; rfl
theorem BinR.seql {p q : ByteArray} : BinR P .eql t x y (.string p) (.string q) (.bool (decide (p = q))) := fun w => by
  simp [eqGuard_at_string, binOp, Op.stringOp, toList_beq]
theorem BinR.sneq {p q : ByteArray} : BinR P .neq t x y (.string p) (.string q) (.bool (!decide (p = q))) := fun w => by
  simp [eqGuard_at_string, binOp, Op.stringOp, toList_beq]
theorem BinR.sadd {p q : ByteArray} (h : p.size + q.size ≤ 9223372036854775807) : BinR P .add t x y (.string p) (.string q) (.string (p ++ q)) := fun w => by
  simp only [eqGuard_at_string, binOp, Op.stringOp]
  rw [if_neg (by rw [IntKind.max_i64]; omega)]; rfl
theorem BinR.slss {p q : ByteArray} : BinR P .lss t x y (.string p) (.string q) (.bool (Op.bytesLess p.toList q.toList)) := fun w => by
  simp [eqGuard_at_string, binOp, Op.stringOp]
end

/-- T is a string type; an integer type -/
class StT (P : Program) (T : TypeId) : Prop where
  u : P.underlying T = some .string
class InT (P : Program) (T : TypeId) (k : outParam IntKind) : Prop where
  u : P.underlying T = some (.int k)
/-- T is a pointer type -/
class PtT (P : Program) (T : TypeId) (E : outParam TypeId) : Prop where
  u : P.underlying T = some (.pointer E)
section
variable {t E : TypeId} {x y : Operand}
theorem run_equal_pnil [hp : PtT P t E] (a : Option Addr) (w : World) : (Op.equal t (.pointer a) (.pointer none)).run P w = .ok a.isNone w := by
  rw [show Op.equal t (.pointer a) (.pointer none) = Op.equalIn (9999 + 1) t (.pointer a) (.pointer none) from rfl]
  generalize 9999 = dd
  cases a <;> simp [Op.equalIn, run_underlying hp.u]
theorem run_equal_nilp [hp : PtT P t E] (a : Option Addr) (w : World) : (Op.equal t (.pointer none) (.pointer a)).run P w = .ok a.isNone w := by
  rw [show Op.equal t (.pointer none) (.pointer a) = Op.equalIn (9999 + 1) t (.pointer none) (.pointer a) from rfl]
  generalize 9999 = dd
  cases a <;> simp [Op.equalIn, run_underlying hp.u]
theorem BinR.peql [PtT P t E] {a} : BinR P .eql t x y (.pointer a) (.pointer none) (.bool a.isNone) := fun w => by
  simp [eqGuard_at_pointer, binOp, run_equal_pnil]
theorem BinR.pneq [PtT P t E] {a} : BinR P .neq t x y (.pointer a) (.pointer none) (.bool (!a.isNone)) := fun w => by
  simp [eqGuard_at_pointer, binOp, run_equal_pnil]
theorem run_equal_slnil {sz by_} [hs : SlT P t E sz by_] (a : Option Addr) (l c : Nat) (w : World) : (Op.equal t (.slice a l c) (.slice none 0 0)).run P w = .ok a.isNone w := by
  rw [show Op.equal t (.slice a l c) (.slice none 0 0) = Op.equalIn (9999 + 1) t (.slice a l c) (.slice none 0 0) from rfl]
  generalize 9999 = dd
  cases a <;> simp [Op.equalIn, run_underlying hs.u]
theorem BinR.sleql {sz by_} [SlT P t E sz by_] {a l c} : BinR P .eql t x y (.slice a l c) (.slice none 0 0) (.bool a.isNone) := fun w => by
  simp [eqGuard_at_slice, binOp, run_equal_slnil]
theorem BinR.slneq {sz by_} [SlT P t E sz by_] {a l c} : BinR P .neq t x y (.slice a l c) (.slice none 0 0) (.bool (!a.isNone)) := fun w => by
  simp [eqGuard_at_slice, binOp, run_equal_slnil]
end

/-! ### memory -/
def box (T : TypeId) (l : List Value) : Obj := .cells ⟨l⟩ T (0, 0)

theorem T_alloc {T z} [hT : Zr P T z] : OpT P s n ⟨d, .alloc T, ty, pos, aft, gd⟩ env m H
    fun v m' H' => ∃ b, v = .pointer (some ⟨b, 0, none⟩) ∧ m' = m ∧ H' = (b, box T z) :: H :=
  .run fun a w hf hok => by
    obtain ⟨v, hv, hz⟩ := run_zeroValue hT w
    refine ⟨_, w.alloc (box T z), m, _, ?_, hok.alloc _, Mem.le.refl m, ⟨w.heap.size, rfl, rfl, rfl⟩⟩
    simp [execOp, Instr.alloc, hv, newVar, newRow, hz, box]

theorem T_box1 {T x v} (hx : ev env x = some v) (hv : v.cells = #[v]) : OpT P s n ⟨d, .box T x, ty, pos, aft, gd⟩ env m H
    fun v' m' H' => ∃ b, v' = .pointer (some ⟨b, 0, none⟩) ∧ m' = m ∧ H' = (b, box T [v]) :: H :=
  .run fun a w hf hok => by
    refine ⟨_, w.alloc (box T [v]), m, _, ?_, hok.alloc _, Mem.le.refl m, ⟨w.heap.size, rfl, rfl, rfl⟩⟩
    simp [execOp, Instr.box, newVar, newRow, hf.ev hx, hv, box]
theorem T_boxA {T x l} (hx : ev env x = some (.agg ⟨l⟩)) : OpT P s n ⟨d, .box T x, ty, pos, aft, gd⟩ env m H
    fun v' m' H' => ∃ b, v' = .pointer (some ⟨b, 0, none⟩) ∧ m' = m ∧ H' = (b, box T l) :: H :=
  .run fun a w hf hok => by
    refine ⟨_, w.alloc (box T l), m, _, ?_, hok.alloc _, Mem.le.refl m, ⟨w.heap.size, rfl, rfl, rfl⟩⟩
    simp [execOp, Instr.box, newVar, newRow, hf.ev hx, Value.cells, box]

/-- cell 'off' of block b holds v -/
def At (m : Mem) (H : Hp) (b off : Nat) (v : Value) : Prop := ∃ c e f, (m b = some (.cells c e f) ∨ (b, Obj.cells c e f) ∈ H) ∧ c[off]? = some v

theorem At.cell {b off v w} (h : At m H b off v) (hok : Ok s w m H) : w.cell? ⟨b, off, none⟩ = some v := by
  obtain ⟨c, e, f, h1, h2⟩ := h
  have : w.heap[b]? = some (.cells c e f) := h1.elim (hok.imm b _) (hok.own (b, _))
  simp [World.cell?, this, h2]

theorem At.imm {b off v c e f} (h : m b = some (.cells c e f)) (h2 : c[off]? = some v) : At m H b off v := ⟨c, e, f, .inl h, h2⟩
theorem At.own {b off v T l} (h : (b, box T l) ∈ H) (h2 : l[off]? = some v) : At m H b off v := ⟨⟨l⟩, T, (0, 0), .inr h, by simpa using h2⟩
theorem At.cons {b off v p} (h : At m H b off v) : At m (p :: H) b off v := by
  obtain ⟨c, e, f, h1, h2⟩ := h
  exact ⟨c, e, f, h1.imp id (List.mem_cons_of_mem _), h2⟩
theorem At.le {b off v m'} (h : At m [] b off v) (hle : Mem.le m m') (H') : At m' H' b off v := by
  obtain ⟨c, e, f, h1, h2⟩ := h
  exact ⟨c, e, f, .inl (hle b _ (h1.resolve_right (by simp))), h2⟩

theorem T_load {T x b off sz v} [hT : Ty P T false sz] (hx : ev env x = some (.pointer (some ⟨b, off, none⟩))) (h : At m H b off v) :
    OpP P s n ⟨d, .load T x, ty, pos, aft, gd⟩ env m H (v) :=
  fun a w hf hok => by
    simp [execOp, hf.ev hx, Instr.loadAt, Instr.sureAddr, loadVar, run_isAgg hT, h.cell hok]

/-- so many cells from 'off' on -/
def Ats (m : Mem) (H : Hp) (b off : Nat) (l : List Value) : Prop := ∀ j v, l[j]? = some v → At m H b (off + j) v

theorem T_loadA {T x b off sz l} [hT : Ty P T true sz] (hx : ev env x = some (.pointer (some ⟨b, off, none⟩))) (h : Ats m H b off l) (hl : l.length = sz) :
    OpP P s n ⟨d, .load T x, ty, pos, aft, gd⟩ env m H ((.agg ⟨l⟩)) :=
  fun a w hf hok => by
    have := run_loadCells_list (P := P) w ⟨b, off, none⟩ l (fun j v hj => by
      rw [Addr.add_lit]
      exact (h j v hj).cell hok)
    subst hl
    simp [execOp, hf.ev hx, Instr.loadAt, Instr.sureAddr, loadVar, run_isAgg hT, run_sizeOf hT, this]

theorem Ats.own {b T l} (h : (b, box T l) ∈ H) : Ats m H b 0 l := fun j v hj => At.own h (by simpa using hj)

/-- stores -/
inductive SetL : List Value → Nat → Value → List Value → Prop
  | head {a r v} : SetL (a :: r) 0 v (v :: r)
  | tail {a r i v r'} (h : SetL r i v r') : SetL (a :: r) (i + 1) v (a :: r')

theorem SetL.lt {l i v l'} (h : SetL l i v l') : i < l.length := by induction h <;> simp_all
theorem SetL.eq {l i v l'} (h : SetL l i v l') : l' = l.set i v := by induction h <;> simp_all

/-- an owned block turned -/
inductive Upd (b : Nat) (o o' : Obj) : Hp → Hp → Prop
  | head {F : Hp} : Upd b o o' ((b, o) :: F) ((b, o') :: F)
  | tail {x : Nat × Obj} {F F' : Hp} (h : Upd b o o' F F') : Upd b o o' (x :: F) (x :: F')
  | app {L F F' : Hp} (h : Upd b o o' F F') : Upd b o o' (L ++ F) (L ++ F')
  | appL {L L' F : Hp} (h : Upd b o o' L L') : Upd b o o' (L ++ F) (L' ++ F)

theorem Upd.perm {b o o' H H'} (h : Upd b o o' H H') : ∃ F, H.Perm ((b, o) :: F) ∧ H'.Perm ((b, o') :: F) := by
  induction h with
  | head => exact ⟨_, .refl _, .refl _⟩
  | @tail x H H' h ih => obtain ⟨F, h1, h2⟩ := ih; exact ⟨x :: F, (h1.cons x).trans (.swap _ _ _), (h2.cons x).trans (.swap _ _ _)⟩
  | @app L H H' h ih => obtain ⟨F, h1, h2⟩ := ih; exact ⟨L ++ F, (h1.append_left L).trans List.perm_middle, (h2.append_left L).trans List.perm_middle⟩
  | @appL L L' G h ih => obtain ⟨F, h1, h2⟩ := ih; exact ⟨F ++ G, h1.append_right G, h2.append_right G⟩

theorem Ok.upds {w w' b o o' H'} (h : Ok s w m H) (u : Upd b o o' H H') (hos : w'.os = w.os) (ht : w'.tape = w.tape) (ho : w'.output = w.output) (hs : w'.heap.size = w.heap.size)
    (hb : w'.heap[b]? = some o') (hk : ∀ k, k ≠ b → w'.heap[k]? = w.heap[k]?) : Ok s w' m H' := by
  obtain ⟨F, h1, h2⟩ := u.perm
  exact ((h.perm h1).upd hos ht ho hs hb hk).perm h2.symm

theorem Upd.mem {b o o' H'} (u : Upd b o o' H H') : (b, o) ∈ H := by
  obtain ⟨F, h1, _⟩ := u.perm
  exact h1.mem_iff.2 (by simp)

theorem setCell_same {w : World} {b off : Nat} {l : List Value} {T : TypeId} (v : Value) (h : w.heap[b]? = some (box T l)) :
    (w.setCell ⟨b, off, none⟩ v).heap[b]? = some (box T (l.set off v)) := by
  simp [World.setCell, Array.getElem?_modify, h, box]

theorem T_store {T x y b off v l l' E sz H'} [hT : Ty P T false sz] (hx : ev env x = some (.pointer (some ⟨b, off, none⟩))) (hy : ev env y = some v) (hv : v.oneCell' = true) (hs : sz = 1)
    (u : Upd b (box E l) (box E l') H H') (hl : SetL l off v l') :
    OpT P s n ⟨none, .store T x y, ty, pos, aft, gd⟩ env m H (same undef m H') :=
  .skip (fun a w hf hok => by
    have hm := hok.own _ u.mem
    have hc : w.cell? ⟨b, off, none⟩ = some (l[off]'hl.lt) := by simp [World.cell?, hm, box, hl.lt]
    have hfz : w.frozen? ⟨b, off, none⟩ = false := by simp [World.frozen?, hm, box]
    have hcells : v.cells = #[v] := by cases v <;> simp [Value.oneCell'] at hv <;> rfl
    refine ⟨w.setCell ⟨b, off, none⟩ v, ?_, hok.upds u rfl rfl rfl (by simp) (by rw [hl.eq]; exact setCell_same v hm) (fun k hk => Go.RowKit.Below.heap_setCell _ _ _ _ hk)⟩
    simp [execOp, hf.ev hx, hf.ev hy, Instr.storeAt, Instr.sureAddr, storeVar, run_sizeOf hT, hcells, hs, storeCells, Addr.add_lit, run_store P w _ v _ hv, hc, hfz]) (Mem.le.refl m)

/-- a whole variable is stored -/
theorem T_storeA {T x y b l l' E sz H'} [hT : Ty P T true sz] (hx : ev env x = some (.pointer (some ⟨b, 0, none⟩))) (hy : ev env y = some (.agg ⟨l'⟩)) (hv : l'.all (·.oneCell') = true) (hs : l'.length = sz)
    (u : Upd b (box E l) (box E l') H H') (hs' : l.length = sz) :
    OpT P s n ⟨none, .store T x y, ty, pos, aft, gd⟩ env m H (same undef m H') :=
  .skip (fun a w hf hok => by
    have hm := hok.own _ u.mem
    obtain ⟨i, dd, hi, hd, ha, hz⟩ := hT.parts
    have hst := run_storeVar_row (P := P) w b E T ⟨l⟩ ⟨l'⟩ hm (by rw [hi]; simp [hz, hs]) (by simp [hs, hs']) (by simpa using hv)
    have hsr : (w.setRow b ⟨l'⟩).heap[b]? = some (box E l') := setRow_heap w b ⟨l⟩ ⟨l'⟩ E (0, 0) hm
    refine ⟨w.setRow b ⟨l'⟩, ?_, hok.upds u rfl rfl rfl ?_ hsr (fun k hk => setRow_other w b k _ hk)⟩
    · simp [execOp, hf.ev hx, hf.ev hy, Instr.storeAt, Instr.sureAddr, hst]
    · simp [World.setRow]) (Mem.le.refl m)

/-- a part of a row is stored -/
def setP (l : List Value) (off : Nat) (cs : List Value) : List Value := l.take off ++ cs ++ l.drop (off + cs.length)

theorem T_storeP {T x y b off l l' E sz H'} [hT : Ty P T true sz] (hx : ev env x = some (.pointer (some ⟨b, off, none⟩))) (hy : ev env y = some (.agg ⟨l'⟩)) (hv : l'.all (·.oneCell') = true) (hs : l'.length = sz) (hl : off + sz ≤ l.length)
    (u : Upd b (box E l) (box E (setP l off l')) H H') :
    OpT P s n ⟨none, .store T x y, ty, pos, aft, gd⟩ env m H (same undef m H') :=
  .skip (fun a w hf hok => by
    have hm := hok.own _ u.mem
    have hst := run_storeCells_at P b off E l' 0 ⟨l⟩ w hm (by simp; omega) (fun v hv' => (List.all_eq_true.1 hv) v hv')
    simp only [Nat.add_zero] at hst
    have hsr := setRow_heap w b ⟨l⟩ (l.take off ++ l' ++ l.drop (off + l'.length)).toArray E (0, 0) hm
    refine ⟨w.setRow b (l.take off ++ l' ++ l.drop (off + l'.length)).toArray, ?_, hok.upds u rfl rfl rfl ?_ hsr (fun k hk => setRow_other w b k _ hk)⟩
    · simp [execOp, hf.ev hx, hf.ev hy, Instr.storeAt, Instr.sureAddr, storeVar, Value.cells, run_sizeOf hT, hs, hst]
    · simp [World.setRow]) (Mem.le.refl m)
end
end
end Go.WL
