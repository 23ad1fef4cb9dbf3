/- More operations: make, min, max. Conditions: none. -/
import Derived.Test.YtbhpofplencjgaaDoorL7
import Derived.Laws.MakeOwn
namespace Go.WL
open Go
section
variable {P : Program} {s : Strm} {n : Nat} {env : Env} {m : Mem} {H : Hp} {d : Option Nat} {ty : TypeId} {pos : String} {aft : Array Edge} {gd : Option (Nat × Bool)} {x y : Operand}

theorem madeCells_repL (z : List Value) (k : Nat) : (madeCells ⟨z⟩ (k * z.length)).toList = repL k z := by
  apply List.ext_getElem?
  intro i
  by_cases hi : i < k * z.length
  · rw [repL_get z k i hi]
    have hz : 0 < z.length := by
      rcases Nat.eq_zero_or_pos z.length with h | h
      · rw [h] at hi; omega
      · exact h
    have hm : i % z.length < z.length := Nat.mod_lt _ hz
    simp [madeCells, hi, hm]
  · rw [List.getElem?_eq_none (by simp [madeCells]; omega), List.getElem?_eq_none (by rw [repL_len]; omega)]

theorem T_makeSlice {T E sz by_ k k' z} {l : Nat} [hs : SlT P T E sz by_] [hz : Zr P E z] (hzl : z.length = sz) (hx : ev env x = some (.int k (l : Int))) (hy : ev env y = some (.int k' (l : Int)))
    (hb : by_ * l ≤ 281474976710656) (h63 : (l : Int) ≤ 9223372036854775807) :
    OpT P s n ⟨d, .makeSlice T x y, ty, pos, aft, gd⟩ env m H
      fun v m' H' => ∃ b, v = .slice (some ⟨b, 0, none⟩) l l ∧ m = m' ∧ H' = (b, box E (repL l z)) :: H :=
  .run fun a w hf hok => by
    obtain ⟨i, hi, hsz, hby⟩ := hs.parts
    have hzh := hz.h
    rw [hi] at hzh
    simp only [Option.bind_some, Option.map_eq_some_iff] at hzh
    obtain ⟨zv, hzv, hzc⟩ := hzh
    have hr := run_make (P := P) w T E i zv hs.u hi hzv k k' l l (by omega) (Int.le_refl _) (by rw [hby, ← Int.natCast_mul]; revert hb; generalize by_ * l = q; intro hb; omega) h63
    rw [Int.toNat_natCast] at hr
    have hc : madeCells zv.cells (l * i.size) = ⟨repL l z⟩ := by
      have e : zv.cells = ⟨z⟩ := by rw [hzc]
      rw [e, hsz, ← hzl]
      exact Array.ext' (madeCells_repL z l)
    rw [hc] at hr
    refine ⟨_, w.alloc (box E (repL l z)), m, _, ?_, hok.alloc _, Mem.le.refl m, ⟨w.heap.size, rfl, rfl, rfl⟩⟩
    simp [execOp, hf.ev hx, hf.ev hy, hr, box]

theorem T_min2 {k k' a b} {tys : Array TypeId} (hx : ev env x = some (.int k a)) (hy : ev env y = some (.int k' b)) :
    OpP P s n ⟨d, .call { callee := .builtin .min, args := #[x, y], argTypes := tys }, ty, pos, aft, gd⟩ env m H (.int k (if b < a then b else a)) :=
  fun act w hf _ => by
    simp [execOp, resolve, invoke, builtin, hf.ev hx, hf.ev hy, run_min_int2]
theorem T_max2 {k k' a b} {tys : Array TypeId} (hx : ev env x = some (.int k a)) (hy : ev env y = some (.int k' b)) :
    OpP P s n ⟨d, .call { callee := .builtin .max, args := #[x, y], argTypes := tys }, ty, pos, aft, gd⟩ env m H (.int k (if b > a then b else a)) :=
  fun act w hf _ => by
    simp [execOp, resolve, invoke, builtin, hf.ev hx, hf.ev hy, run_max_int2]
theorem BinR.beql {t : TypeId} {a b : Bool} (h : P.underlying t = some .bool) : BinR P .eql t x y (.bool a) (.bool b) (.bool (a == b)) := fun w => by
  rw [eqGuard_at_bool]
  simp [run_eql_bool w t a b h]
end
end Go.WL
