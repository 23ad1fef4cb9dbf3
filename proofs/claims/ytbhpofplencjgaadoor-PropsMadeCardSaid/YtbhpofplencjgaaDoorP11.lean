/- Values compared; the error's number. Conditions: none. -/
import Derived.Test.YtbhpofplencjgaaDoorP10
import Derived.Laws.StructEq
namespace Go.Proofs.YtbhpofplencjgaaDoor
open Go Go.WL

theorem run_part1 {P : Program} {T sz : Nat} [t : Ty P T false sz] (w : World) {cs : Array Value} {off : Nat} {v : Value} (h : cs[off]? = some v) : (part T cs off).run P w = .ok v w := by
  simp [part, run_isAgg t, h]

set_option maxRecDepth 100000 in
theorem eq_val (w : World) (x y : Val) (d : Nat) : (Op.equalIn (d + 2) 33 (.agg ⟨x.cs⟩) (.agg ⟨y.cs⟩)).run Tryd.prog w = .ok (decide (x = y)) w := by
  rw [run_equalIn_agg w (d + 1) 33 _ _ (by kernel_rfl) (by kernel_rfl)]
  obtain ⟨f1, f2, f3, hf, n1, n2, n3, t1, t2, t3, o1, o2, o3⟩ : ∃ a b c : Field, (Tryd.prog.fieldsOf 33).toList = [a, b, c] ∧ a.name ≠ "_" ∧ b.name ≠ "_" ∧ c.name ≠ "_" ∧ a.type = 3 ∧ b.type = 3 ∧ c.type = 9 ∧ a.offset = 0 ∧ b.offset = 1 ∧ c.offset = 2 :=
    ⟨_, _, _, rfl, by decide, by decide, by decide, rfl, rfl, rfl, rfl, rfl, rfl⟩
  rw [hf]
  have e : (decide (x = y)) = (x.k == y.k && (x.n == y.n && x.s == y.s)) := by
    cases x; cases y
    rw [Bool.eq_iff_iff]
    simp
  rw [e]
  have hb : ∀ a b : S, ((⟨⟨a⟩⟩ : ByteArray).toList == (⟨⟨b⟩⟩ : ByteArray).toList) = (a == b) := fun a b => by
    rw [ByteArray.toList_eq, ByteArray.toList_eq]
  have hi : ∀ a b w, (Op.equalIn (d + 1) 3 (.int .i64 a) (.int .i64 b)).run Tryd.prog w = .ok (a == b) w := fun a b w => run_equalIn_int w d 3 .i64 .i64 a b (by rfl)
  have hs : ∀ a b w, (Op.equalIn (d + 1) 9 (.string ⟨⟨a⟩⟩) (.string ⟨⟨b⟩⟩)).run Tryd.prog w = .ok (a == b) w := fun a b w => by rw [run_equalIn_string w d 9 _ _ (by rfl), hb]
  simp only [Op.eqFields, ne_eq, n1, n2, n3, not_false_eq_true, if_true, t1, t2, t3, o1, o2, o3, Sem.run_bind, Sem.run_ite, Sem.run_pure, run_part1 (cs := ⟨x.cs⟩) (off := 0) (v := .int .i64 x.k) w rfl, run_part1 (cs := ⟨y.cs⟩) (off := 0) (v := .int .i64 y.k) w rfl,
    run_part1 (cs := ⟨x.cs⟩) (off := 1) (v := .int .i64 x.n) w rfl, run_part1 (cs := ⟨y.cs⟩) (off := 1) (v := .int .i64 y.n) w rfl, run_part1 (cs := ⟨x.cs⟩) (off := 2) (v := str x.s) w rfl, run_part1 (cs := ⟨y.cs⟩) (off := 2) (v := str y.s) w rfl, Result.andThen_ok, str,
    hi, hs]
  cases x.k == y.k <;> cases x.n == y.n <;> cases x.s == y.s <;> simp

theorem BinR.veql {a b : Operand} {x y : Val} : BinR Tryd.prog .eql 33 a b (.agg ⟨x.cs⟩) (.agg ⟨y.cs⟩) (.bool (decide (x = y))) := fun w => by
  rw [Sem.run_bind, run_eqGuard_agg w _ _ _ _ _ _ (by kernel_rfl)]
  simp only [Result.andThen_ok, run_eql_struct, eq_val w x y 9998]
theorem BinR.vneq {a b : Operand} {x y : Val} : BinR Tryd.prog .neq 33 a b (.agg ⟨x.cs⟩) (.agg ⟨y.cs⟩) (.bool (!decide (x = y))) := fun w => by
  rw [Sem.run_bind, run_eqGuard_agg w _ _ _ _ _ _ (by kernel_rfl)]
  simp only [Result.andThen_ok, run_neq_struct, eq_val w x y 9998]

theorem BinR.veqs {a b : Operand} {x : Val} : BinR Tryd.prog .eql 33 a b (.agg ⟨x.cs⟩) (.agg ⟨x.cs⟩) (.bool true) := by
  have := BinR.veql (a := a) (b := b) (x := x) (y := x)
  rwa [decide_eq_true rfl] at this

theorem BinR.vneqs {a b : Operand} {x : Val} : BinR Tryd.prog .neq 33 a b (.agg ⟨x.cs⟩) (.agg ⟨x.cs⟩) (.bool false) := by
  have := BinR.vneq (a := a) (b := b) (x := x) (y := x)
  rwa [decide_eq_true rfl] at this

set_option linter.unusedSimpArgs false
set_option linter.unusedVariables false
attribute [local irreducible] OpP OpT RW CW AW FnR FnP BinR At thenQ blockQ bodyQ

theorem l1_Err {m : Mem} {H : Hp} {e : Int} :
    FnR Tryd.prog 8 #[.int .i64 e] m H fun v' m' H' => v' = .int .i64 e ∧ m = m' ∧ H = H' := by
  refine FnR.enter Tryd.func8 rfl Tryd.ntmps8 rfl fun s => ?_
  repeat (first | apply CW_seq | apply CW_region | apply RW_nil | apply thenQ_normal | apply thenQ_ret | apply thenQ_exit | apply blockQ_normal | apply blockQ_ret | apply blockQ_exit | (apply Xn; exact rfl) | apply CW_skip | apply CW_ret | apply CW_exit | apply CW_block | (apply CW_cf; exact rfl; exact bf) | (apply CW_ct; exact rfl; exact bt) | (apply RW_no; exact rfl; exact rfl; exact rfl; exact rfl; exact bn) | (apply RWu; exact rfl; exact rfl; exact rfl; exact rfl) | (apply RW_same; exact rfl; exact gk; exact op1) | (apply RW_box; exact rfl; exact gk; (first | exact T_alloc | exact T_boxA rfl | exact T_box1 rfl rfl); intro _) | (apply RW_st; exact gk; exact st1))
  first | refine rR _ (hs := List.Sublist.refl _) (h := ?_) | refine rN _ (hs := List.Sublist.refl _) (h := ?_)
  exact ⟨rfl, rfl, rfl⟩

theorem WP.nil : WP [] := fun i hi => absurd hi (by simp)
theorem Good.new {m : Mem} {h : Nat} {hs : Hp} (hh : HeapAt m h [] hs) : Good m h [] hs := ⟨hh, WP.nil⟩

def sAbc : S := [97, 98, 99]
theorem awake {m : Mem} {H : Hp} :
    FnR Tryd.prog 5 #[] m H fun v' m' H' => v' = .bool true ∧ H' = H := by
  refine FnR.enter Tryd.func5 rfl Tryd.ntmps5 rfl fun s => ?_
  repeat (first | apply CW_seq | apply CW_region | apply RW_nil | apply thenQ_normal | apply thenQ_ret | apply thenQ_exit | apply blockQ_normal | apply blockQ_ret | apply blockQ_exit | (apply Xn; exact rfl) | apply CW_skip | apply CW_ret | apply CW_exit | apply CW_block | (apply CW_cf; exact rfl; exact bf) | (apply CW_ct; exact rfl; exact bt) | (apply RW_no; exact rfl; exact rfl; exact rfl; exact rfl; exact bn) | (apply RWu; exact rfl; exact rfl; exact rfl; exact rfl) | (apply RW_same; exact rfl; exact gk; exact op1) | (apply RW_box; exact rfl; exact gk; (first | exact T_alloc | exact T_boxA rfl | exact T_box1 rfl rfl); intro _) | (apply RW_st; exact gk; exact st1))
  refine RW_call rfl (by exact gk) rfl heap_New ?_
  rintro _ _ _ _ ⟨h, hs, rfl, hh, rfl, rfl⟩
  refine RW_same rfl (by exact gk) (T_build (l' := (Val.mk 4 0 sAbc).cs) (by exact bd)) ?_
  refine RW_call rfl (by exact gk) rfl (props_Get (v := ⟨4, 0, sAbc⟩) (name := sLength) (Good.new hh) (by decide)) ?_
  rintro _ _ _ _ ⟨rfl, rfl⟩
  have hg : getV [] ⟨4, 0, sAbc⟩ sLength = (⟨3, 3, []⟩, 0) := by decide
  rw [hg]
  repeat (first | apply CW_seq | apply CW_region | apply RW_nil | apply thenQ_normal | apply thenQ_ret | apply thenQ_exit | apply blockQ_normal | apply blockQ_ret | apply blockQ_exit | (apply Xn; exact rfl) | apply CW_skip | apply CW_ret | apply CW_exit | apply CW_block | (apply CW_cf; exact rfl; exact bf) | (apply CW_ct; exact rfl; exact bt) | (apply RW_no; exact rfl; exact rfl; exact rfl; exact rfl; exact bn) | (apply RWu; exact rfl; exact rfl; exact rfl; exact rfl) | (apply RW_same; exact rfl; exact gk; exact op1) | (apply RW_box; exact rfl; exact gk; (first | exact T_alloc | exact T_boxA rfl | exact T_box1 rfl rfl); intro _) | (apply RW_st; exact gk; exact st1))
  refine RW_same rfl (by exact gk) (T_bin rfl rfl BinR.veqs) ?_
  repeat (first | apply CW_seq | apply CW_region | apply RW_nil | apply thenQ_normal | apply thenQ_ret | apply thenQ_exit | apply blockQ_normal | apply blockQ_ret | apply blockQ_exit | (apply Xn; exact rfl) | apply CW_skip | apply CW_ret | apply CW_exit | apply CW_block | (apply CW_cf; exact rfl; exact bf) | (apply CW_ct; exact rfl; exact bt) | (apply RW_no; exact rfl; exact rfl; exact rfl; exact rfl; exact bn) | (apply RWu; exact rfl; exact rfl; exact rfl; exact rfl) | (apply RW_same; exact rfl; exact gk; exact op1) | (apply RW_box; exact rfl; exact gk; (first | exact T_alloc | exact T_boxA rfl | exact T_box1 rfl rfl); intro _) | (apply RW_st; exact gk; exact st1))
  refine RW_call rfl (by exact gk) rfl l1_Err ?_
  rintro _ _ _ _ ⟨rfl, rfl, rfl⟩
  repeat (first | apply CW_seq | apply CW_region | apply RW_nil | apply thenQ_normal | apply thenQ_ret | apply thenQ_exit | apply blockQ_normal | apply blockQ_ret | apply blockQ_exit | (apply Xn; exact rfl) | apply CW_skip | apply CW_ret | apply CW_exit | apply CW_block | (apply CW_cf; exact rfl; exact bf) | (apply CW_ct; exact rfl; exact bt) | (apply RW_no; exact rfl; exact rfl; exact rfl; exact rfl; exact bn) | (apply RWu; exact rfl; exact rfl; exact rfl; exact rfl) | (apply RW_same; exact rfl; exact gk; exact op1) | (apply RW_box; exact rfl; exact gk; (first | exact T_alloc | exact T_boxA rfl | exact T_box1 rfl rfl); intro _) | (apply RW_st; exact gk; exact st1))
  first | refine rR (H) (h := ?_) | refine rN (H) (h := ?_)
  exact ⟨rfl, rfl⟩
end Go.Proofs.YtbhpofplencjgaaDoor
