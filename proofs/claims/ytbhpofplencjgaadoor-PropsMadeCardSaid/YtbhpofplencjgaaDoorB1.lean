/- The reference's small functions. Conditions: none. -/
import Derived.Test.YtbhpofplencjgaaDoorA2
namespace Go.Proofs.YtbhpofplencjgaaDoor
open Go Go.WL
set_option linter.unusedSimpArgs false
set_option linter.unusedVariables false
attribute [local irreducible] OpP OpT RW CW AW FnR FnP BinR At thenQ blockQ bodyQ

theorem r13_nothing {v : Val} {m : Mem} {H : Hp} : FnR Tryd.prog 35 #[.agg ⟨v.cs⟩] m H fun v' m' H' => v' = .bool (decide (v.k = 0 ∨ v.k = 1 ∨ v.k = 7)) ∧ m = m' ∧ H = H' := by
  refine FnR.enter Tryd.func35 rfl Tryd.ntmps35 rfl fun s => ?_
  repeat (first | apply CW_seq | apply CW_region | apply RW_nil | apply thenQ_normal | apply thenQ_ret | apply thenQ_exit | apply blockQ_normal | apply blockQ_ret | apply blockQ_exit | (apply Xn; exact rfl) | apply CW_skip | apply CW_ret | apply CW_exit | apply CW_block | (apply CW_cf; exact rfl; exact bf) | (apply CW_ct; exact rfl; exact bt) | (apply RW_no; exact rfl; exact rfl; exact rfl; exact rfl; exact bn) | (apply RWu; exact rfl; exact rfl; exact rfl; exact rfl) | (apply RW_same; exact rfl; exact gk; exact op1) | (apply RW_box; exact rfl; exact gk; (first | exact T_alloc | exact T_boxA rfl | exact T_box1 rfl rfl); intro _) | (apply RW_st; exact gk; exact st1))
  refine RW_partd 6 rfl (fun h => ?_) (fun h => ?_)
  · repeat (first | apply CW_seq | apply CW_region | apply RW_nil | apply thenQ_normal | apply thenQ_ret | apply thenQ_exit | apply blockQ_normal | apply blockQ_ret | apply blockQ_exit | (apply Xn; exact rfl) | apply CW_skip | apply CW_ret | apply CW_exit | apply CW_block | (apply CW_cf; exact rfl; exact bf) | (apply CW_ct; exact rfl; exact bt) | (apply RW_no; exact rfl; exact rfl; exact rfl; exact rfl; exact bn) | (apply RWu; exact rfl; exact rfl; exact rfl; exact rfl) | (apply RW_same; exact rfl; exact gk; exact op1) | (apply RW_box; exact rfl; exact gk; (first | exact T_alloc | exact T_boxA rfl | exact T_box1 rfl rfl); intro _) | (apply RW_st; exact gk; exact st1))
    first | refine rR (H) (h := ?_) | refine rN (H) (h := ?_)
    exact ⟨by simp [tupleOf, h], rfl, rfl⟩
  · have h0 := h
    repeat (first | apply CW_seq | apply CW_region | apply RW_nil | apply thenQ_normal | apply thenQ_ret | apply thenQ_exit | apply blockQ_normal | apply blockQ_ret | apply blockQ_exit | (apply Xn; exact rfl) | apply CW_skip | apply CW_ret | apply CW_exit | apply CW_block | (apply CW_cf; exact rfl; exact bf) | (apply CW_ct; exact rfl; exact bt) | (apply RW_no; exact rfl; exact rfl; exact rfl; exact rfl; exact bn) | (apply RWu; exact rfl; exact rfl; exact rfl; exact rfl) | (apply RW_same; exact rfl; exact gk; exact op1) | (apply RW_box; exact rfl; exact gk; (first | exact T_alloc | exact T_boxA rfl | exact T_box1 rfl rfl); intro _) | (apply RW_st; exact gk; exact st1))
    refine RW_partd 11 rfl (fun h => ?_) (fun h => ?_)
    · repeat (first | apply CW_seq | apply CW_region | apply RW_nil | apply thenQ_normal | apply thenQ_ret | apply thenQ_exit | apply blockQ_normal | apply blockQ_ret | apply blockQ_exit | (apply Xn; exact rfl) | apply CW_skip | apply CW_ret | apply CW_exit | apply CW_block | (apply CW_cf; exact rfl; exact bf) | (apply CW_ct; exact rfl; exact bt) | (apply RW_no; exact rfl; exact rfl; exact rfl; exact rfl; exact bn) | (apply RWu; exact rfl; exact rfl; exact rfl; exact rfl) | (apply RW_same; exact rfl; exact gk; exact op1) | (apply RW_box; exact rfl; exact gk; (first | exact T_alloc | exact T_boxA rfl | exact T_box1 rfl rfl); intro _) | (apply RW_st; exact gk; exact st1))
      first | refine rR (H) (h := ?_) | refine rN (H) (h := ?_)
      exact ⟨by simp [tupleOf, h], rfl, rfl⟩
    · repeat (first | apply CW_seq | apply CW_region | apply RW_nil | apply thenQ_normal | apply thenQ_ret | apply thenQ_exit | apply blockQ_normal | apply blockQ_ret | apply blockQ_exit | (apply Xn; exact rfl) | apply CW_skip | apply CW_ret | apply CW_exit | apply CW_block | (apply CW_cf; exact rfl; exact bf) | (apply CW_ct; exact rfl; exact bt) | (apply RW_no; exact rfl; exact rfl; exact rfl; exact rfl; exact bn) | (apply RWu; exact rfl; exact rfl; exact rfl; exact rfl) | (apply RW_same; exact rfl; exact gk; exact op1) | (apply RW_box; exact rfl; exact gk; (first | exact T_alloc | exact T_boxA rfl | exact T_box1 rfl rfl); intro _) | (apply RW_st; exact gk; exact st1))
      first | refine rR (H) (h := ?_) | refine rN (H) (h := ?_)
      exact ⟨by simp [tupleOf, h0, h], rfl, rfl⟩

theorem r13_Num {n : Int} {m : Mem} {H : Hp} : FnR Tryd.prog 36 #[.int .i64 n] m H fun v' m' H' => v' = .agg ⟨(vNum n).cs⟩ ∧ m = m' ∧ H = H' := by
  refine FnR.enter Tryd.func36 rfl Tryd.ntmps36 rfl fun s => ?_
  repeat (first | apply CW_seq | apply CW_region | apply RW_nil | apply thenQ_normal | apply thenQ_ret | apply thenQ_exit | apply blockQ_normal | apply blockQ_ret | apply blockQ_exit | (apply Xn; exact rfl) | apply CW_skip | apply CW_ret | apply CW_exit | apply CW_block | (apply CW_cf; exact rfl; exact bf) | (apply CW_ct; exact rfl; exact bt) | (apply RW_no; exact rfl; exact rfl; exact rfl; exact rfl; exact bn) | (apply RWu; exact rfl; exact rfl; exact rfl; exact rfl) | (apply RW_same; exact rfl; exact gk; exact op1) | (apply RW_box; exact rfl; exact gk; (first | exact T_alloc | exact T_boxA rfl | exact T_box1 rfl rfl); intro _) | (apply RW_st; exact gk; exact st1))
  first | refine rR (H) (h := ?_) | refine rN (H) (h := ?_)
  exact ⟨rfl, rfl, rfl⟩
theorem r13_Own {n : Int} {s : S} {m : Mem} {H : Hp} : FnR Tryd.prog 39 #[str s, .int .i64 n] m H fun v' m' H' => v' = .agg ⟨(Val.mk 6 n s).cs⟩ ∧ m = m' ∧ H = H' := by
  refine FnR.enter Tryd.func39 rfl Tryd.ntmps39 rfl fun s => ?_
  repeat (first | apply CW_seq | apply CW_region | apply RW_nil | apply thenQ_normal | apply thenQ_ret | apply thenQ_exit | apply blockQ_normal | apply blockQ_ret | apply blockQ_exit | (apply Xn; exact rfl) | apply CW_skip | apply CW_ret | apply CW_exit | apply CW_block | (apply CW_cf; exact rfl; exact bf) | (apply CW_ct; exact rfl; exact bt) | (apply RW_no; exact rfl; exact rfl; exact rfl; exact rfl; exact bn) | (apply RWu; exact rfl; exact rfl; exact rfl; exact rfl) | (apply RW_same; exact rfl; exact gk; exact op1) | (apply RW_box; exact rfl; exact gk; (first | exact T_alloc | exact T_boxA rfl | exact T_box1 rfl rfl); intro _) | (apply RW_st; exact gk; exact st1))
  first | refine rR (H) (h := ?_) | refine rN (H) (h := ?_)
  exact ⟨rfl, rfl, rfl⟩
theorem r13_Str {s : S} {m : Mem} {H : Hp} : FnR Tryd.prog 41 #[str s] m H fun v' m' H' => v' = .agg ⟨(Val.mk 4 0 s).cs⟩ ∧ m = m' ∧ H = H' := by
  refine FnR.enter Tryd.func41 rfl Tryd.ntmps41 rfl fun s => ?_
  repeat (first | apply CW_seq | apply CW_region | apply RW_nil | apply thenQ_normal | apply thenQ_ret | apply thenQ_exit | apply blockQ_normal | apply blockQ_ret | apply blockQ_exit | (apply Xn; exact rfl) | apply CW_skip | apply CW_ret | apply CW_exit | apply CW_block | (apply CW_cf; exact rfl; exact bf) | (apply CW_ct; exact rfl; exact bt) | (apply RW_no; exact rfl; exact rfl; exact rfl; exact rfl; exact bn) | (apply RWu; exact rfl; exact rfl; exact rfl; exact rfl) | (apply RW_same; exact rfl; exact gk; exact op1) | (apply RW_box; exact rfl; exact gk; (first | exact T_alloc | exact T_boxA rfl | exact T_box1 rfl rfl); intro _) | (apply RW_st; exact gk; exact st1))
  first | refine rR (H) (h := ?_) | refine rN (H) (h := ?_)
  exact ⟨rfl, rfl, rfl⟩

theorem r13_one {m : Mem} {H : Hp} {v : Value} {l : List S} {x : S} (h : SlV m v l) (hl : l.length ≤ 1000000) :
    FnR Tryd.prog 37 #[v, str x] m H fun v' m' H' => v' = .bool (find l x).isSome ∧ m = m' ∧ H = H' := by
  have hs := h.rd H
  obtain ⟨a, cap, rfl, hc, -⟩ := h
  refine FnR.enter Tryd.func37 rfl Tryd.ntmps37 rfl fun s => ?_
  repeat (first | apply CW_seq | apply CW_region | apply RW_nil | apply thenQ_normal | apply thenQ_ret | apply thenQ_exit | apply blockQ_normal | apply blockQ_ret | apply blockQ_exit | (apply Xn; exact rfl) | apply CW_skip | apply CW_ret | apply CW_exit | apply CW_block | (apply CW_cf; exact rfl; exact bf) | (apply CW_ct; exact rfl; exact bt) | (apply RW_no; exact rfl; exact rfl; exact rfl; exact rfl; exact bn) | (apply RWu; exact rfl; exact rfl; exact rfl; exact rfl) | (apply RW_same; exact rfl; exact gk; exact op1) | (apply RW_box; exact rfl; exact gk; (first | exact T_alloc | exact T_boxA rfl | exact T_box1 rfl rfl); intro _) | (apply RW_st; exact gk; exact st1))
  refine CW_loop (fun k : Nat => [(0, .slice a l.length cap), (1, str x), (5, .int .i64 k)]) (fun _ => m) (fun _ => H) (fun k => k ≤ l.length ∧ ∀ j (hj : j < k) (hj' : j < l.length), l[j] ≠ x) (fun k => l.length - k) 0 (by exact sb) rfl (.refl _) ⟨by omega, fun j hj => by omega⟩ ?_
  rintro k ⟨hk, hb⟩
  repeat (first | apply CW_seq | apply CW_region | apply RW_nil | apply thenQ_normal | apply thenQ_ret | apply thenQ_exit | apply blockQ_normal | apply blockQ_ret | apply blockQ_exit | (apply Xn; exact rfl) | apply CW_skip | apply CW_ret | apply CW_exit | apply CW_block | (apply CW_cf; exact rfl; exact bf) | (apply CW_ct; exact rfl; exact bt) | (apply RW_no; exact rfl; exact rfl; exact rfl; exact rfl; exact bn) | (apply RWu; exact rfl; exact rfl; exact rfl; exact rfl) | (apply RW_same; exact rfl; exact gk; exact op1) | (apply RW_box; exact rfl; exact gk; (first | exact T_alloc | exact T_boxA rfl | exact T_box1 rfl rfl); intro _) | (apply RW_st; exact gk; exact st1))
  refine CW_cond_dec rfl (fun h => ?_) (fun h => ?_)
  · repeat (first | apply CW_seq | apply CW_region | apply RW_nil | apply thenQ_normal | apply thenQ_ret | apply thenQ_exit | apply blockQ_normal | apply blockQ_ret | apply blockQ_exit | (apply Xn; exact rfl) | apply CW_skip | apply CW_ret | apply CW_exit | apply CW_block | (apply CW_cf; exact rfl; exact bf) | (apply CW_ct; exact rfl; exact bt) | (apply RW_no; exact rfl; exact rfl; exact rfl; exact rfl; exact bn) | (apply RWu; exact rfl; exact rfl; exact rfl; exact rfl) | (apply RW_same; exact rfl; exact gk; exact op1) | (apply RW_box; exact rfl; exact gk; (first | exact T_alloc | exact T_boxA rfl | exact T_box1 rfl rfl); intro _) | (apply RW_st; exact gk; exact st1))
    refine RW_indexH rfl (by exact gk) rfl hs rfl rfl (by omega) ?_
    rintro b o cs hcs hats
    simp only [Int.toNat_natCast] at hcs
    subst hcs
    have hat := hats 0 _ rfl
    repeat (first | apply CW_seq | apply CW_region | apply RW_nil | apply thenQ_normal | apply thenQ_ret | apply thenQ_exit | apply blockQ_normal | apply blockQ_ret | apply blockQ_exit | (apply Xn; exact rfl) | apply CW_skip | apply CW_ret | apply CW_exit | apply CW_block | (apply CW_cf; exact rfl; exact bf) | (apply CW_ct; exact rfl; exact bt) | (apply RW_no; exact rfl; exact rfl; exact rfl; exact rfl; exact bn) | (apply RWu; exact rfl; exact rfl; exact rfl; exact rfl) | (apply RW_same; exact rfl; exact gk; exact op1) | (apply RW_box; exact rfl; exact gk; (first | exact T_alloc | exact T_boxA rfl | exact T_box1 rfl rfl); intro _) | (apply RW_st; exact gk; exact st1))
    refine CW_cond_dec rfl (fun h => ?_) (fun h => ?_)
    · repeat (first | apply CW_seq | apply CW_region | apply RW_nil | apply thenQ_normal | apply thenQ_ret | apply thenQ_exit | apply blockQ_normal | apply blockQ_ret | apply blockQ_exit | (apply Xn; exact rfl) | apply CW_skip | apply CW_ret | apply CW_exit | apply CW_block | (apply CW_cf; exact rfl; exact bf) | (apply CW_ct; exact rfl; exact bt) | (apply RW_no; exact rfl; exact rfl; exact rfl; exact rfl; exact bn) | (apply RWu; exact rfl; exact rfl; exact rfl; exact rfl) | (apply RW_same; exact rfl; exact gk; exact op1) | (apply RW_box; exact rfl; exact gk; (first | exact T_alloc | exact T_boxA rfl | exact T_box1 rfl rfl); intro _) | (apply RW_st; exact gk; exact st1))
      first | refine rR _ (hs := List.Sublist.refl _) (h := ?_) | refine rN _ (hs := List.Sublist.refl _) (h := ?_)
      refine ⟨?_, rfl, rfl⟩
      rw [find_some (k := k) (by omega) h (fun j hj => hb j hj (by omega))]
      rfl
    · repeat (first | apply CW_seq | apply CW_region | apply RW_nil | apply thenQ_normal | apply thenQ_ret | apply thenQ_exit | apply blockQ_normal | apply blockQ_ret | apply blockQ_exit | (apply Xn; exact rfl) | apply CW_skip | apply CW_ret | apply CW_exit | apply CW_block | (apply CW_cf; exact rfl; exact bf) | (apply CW_ct; exact rfl; exact bt) | (apply RW_no; exact rfl; exact rfl; exact rfl; exact rfl; exact bn) | (apply RWu; exact rfl; exact rfl; exact rfl; exact rfl) | (apply RW_same; exact rfl; exact gk; exact op1) | (apply RW_box; exact rfl; exact gk; (first | exact T_alloc | exact T_boxA rfl | exact T_box1 rfl rfl); intro _) | (apply RW_st; exact gk; exact st1))
      refine ⟨k + 1, ⟨by omega, fun j hj hj' => ?_⟩, by omega, by exact sb, rfl, [], .refl _⟩
      by_cases e : j = k
      · subst e; exact h
      · exact hb j (by omega) hj'
  · repeat (first | apply CW_seq | apply CW_region | apply RW_nil | apply thenQ_normal | apply thenQ_ret | apply thenQ_exit | apply blockQ_normal | apply blockQ_ret | apply blockQ_exit | (apply Xn; exact rfl) | apply CW_skip | apply CW_ret | apply CW_exit | apply CW_block | (apply CW_cf; exact rfl; exact bf) | (apply CW_ct; exact rfl; exact bt) | (apply RW_no; exact rfl; exact rfl; exact rfl; exact rfl; exact bn) | (apply RWu; exact rfl; exact rfl; exact rfl; exact rfl) | (apply RW_same; exact rfl; exact gk; exact op1) | (apply RW_box; exact rfl; exact gk; (first | exact T_alloc | exact T_boxA rfl | exact T_box1 rfl rfl); intro _) | (apply RW_st; exact gk; exact st1))
    first | refine rR _ (hs := List.Sublist.refl _) (h := ?_) | refine rN _ (hs := List.Sublist.refl _) (h := ?_)
    refine ⟨?_, rfl, rfl⟩
    rw [find_none (fun j hj => hb j (by omega) hj)]
    rfl

theorem r13_key {m : Mem} {H : Hp} {kv vv : Value} {c : Cel} {x : S} (h : SlV m kv c.keys) (hl : c.keys.length ≤ 1000000) :
    FnR Tryd.prog 40 #[.agg #[.int .i64 c.kind, .int .i64 c.a, .int .i64 c.b, kv, vv], str x] m H fun v' m' H' => v' = .int .i64 (findI c.keys x) ∧ m = m' ∧ H = H' := by
  obtain ⟨a, cap, rfl, hc, hsl⟩ := h
  refine FnR.enter Tryd.func40 rfl Tryd.ntmps40 rfl fun s => ?_
  repeat (first | apply CW_seq | apply CW_region | apply RW_nil | apply thenQ_normal | apply thenQ_ret | apply thenQ_exit | apply blockQ_normal | apply blockQ_ret | apply blockQ_exit | (apply Xn; exact rfl) | apply CW_skip | apply CW_ret | apply CW_exit | apply CW_block | (apply CW_cf; exact rfl; exact bf) | (apply CW_ct; exact rfl; exact bt) | (apply RW_no; exact rfl; exact rfl; exact rfl; exact rfl; exact bn) | (apply RWu; exact rfl; exact rfl; exact rfl; exact rfl) | (apply RW_same; exact rfl; exact gk; exact op1) | (apply RW_box; exact rfl; exact gk; (first | exact T_alloc | exact T_boxA rfl | exact T_box1 rfl rfl); intro _) | (apply RW_st; exact gk; exact st1))
  rename_i b2
  refine CW_loop (fun k : Nat => [(1, str x), (2, .pointer (some ⟨b2, 0, none⟩)), (5, .int .i64 k)]) (fun _ => m) (fun _ => (b2, box 31 [.int .i64 c.kind, .int .i64 c.a, .int .i64 c.b, .slice a c.keys.length cap, vv]) :: H) (fun k => k ≤ c.keys.length ∧ ∀ j (hj : j < k) (hj' : j < c.keys.length), c.keys[j] ≠ x) (fun k => c.keys.length - k) 0 (by exact sb) rfl (.refl _) ⟨by omega, fun j hj => by omega⟩ ?_
  rintro k ⟨hk, hb⟩
  repeat (first | apply CW_seq | apply CW_region | apply RW_nil | apply thenQ_normal | apply thenQ_ret | apply thenQ_exit | apply blockQ_normal | apply blockQ_ret | apply blockQ_exit | (apply Xn; exact rfl) | apply CW_skip | apply CW_ret | apply CW_exit | apply CW_block | (apply CW_cf; exact rfl; exact bf) | (apply CW_ct; exact rfl; exact bt) | (apply RW_no; exact rfl; exact rfl; exact rfl; exact rfl; exact bn) | (apply RWu; exact rfl; exact rfl; exact rfl; exact rfl) | (apply RW_same; exact rfl; exact gk; exact op1) | (apply RW_box; exact rfl; exact gk; (first | exact T_alloc | exact T_boxA rfl | exact T_box1 rfl rfl); intro _) | (apply RW_st; exact gk; exact st1))
  refine CW_cond_dec rfl (fun h => ?_) (fun h => ?_)
  · repeat (first | apply CW_seq | apply CW_region | apply RW_nil | apply thenQ_normal | apply thenQ_ret | apply thenQ_exit | apply blockQ_normal | apply blockQ_ret | apply blockQ_exit | (apply Xn; exact rfl) | apply CW_skip | apply CW_ret | apply CW_exit | apply CW_block | (apply CW_cf; exact rfl; exact bf) | (apply CW_ct; exact rfl; exact bt) | (apply RW_no; exact rfl; exact rfl; exact rfl; exact rfl; exact bn) | (apply RWu; exact rfl; exact rfl; exact rfl; exact rfl) | (apply RW_same; exact rfl; exact gk; exact op1) | (apply RW_box; exact rfl; exact gk; (first | exact T_alloc | exact T_boxA rfl | exact T_box1 rfl rfl); intro _) | (apply RW_st; exact gk; exact st1))
    refine RW_index rfl (by exact gk) rfl hsl rfl rfl (by omega) ?_
    rintro b o cs hcs hats
    simp only [Int.toNat_natCast] at hcs
    subst hcs
    repeat (first | apply CW_seq | apply CW_region | apply RW_nil | apply thenQ_normal | apply thenQ_ret | apply thenQ_exit | apply blockQ_normal | apply blockQ_ret | apply blockQ_exit | (apply Xn; exact rfl) | apply CW_skip | apply CW_ret | apply CW_exit | apply CW_block | (apply CW_cf; exact rfl; exact bf) | (apply CW_ct; exact rfl; exact bt) | (apply RW_no; exact rfl; exact rfl; exact rfl; exact rfl; exact bn) | (apply RWu; exact rfl; exact rfl; exact rfl; exact rfl) | (apply RW_same; exact rfl; exact gk; exact op1) | (apply RW_box; exact rfl; exact gk; (first | exact T_alloc | exact T_boxA rfl | exact T_box1 rfl rfl); intro _) | (apply RW_st; exact gk; exact st1))
    refine CW_cond_dec rfl (fun h => ?_) (fun h => ?_)
    · repeat (first | apply CW_seq | apply CW_region | apply RW_nil | apply thenQ_normal | apply thenQ_ret | apply thenQ_exit | apply blockQ_normal | apply blockQ_ret | apply blockQ_exit | (apply Xn; exact rfl) | apply CW_skip | apply CW_ret | apply CW_exit | apply CW_block | (apply CW_cf; exact rfl; exact bf) | (apply CW_ct; exact rfl; exact bt) | (apply RW_no; exact rfl; exact rfl; exact rfl; exact rfl; exact bn) | (apply RWu; exact rfl; exact rfl; exact rfl; exact rfl) | (apply RW_same; exact rfl; exact gk; exact op1) | (apply RW_box; exact rfl; exact gk; (first | exact T_alloc | exact T_boxA rfl | exact T_box1 rfl rfl); intro _) | (apply RW_st; exact gk; exact st1))
      first | refine rR (H) (h := ?_) | refine rN (H) (h := ?_)
      refine ⟨?_, rfl, rfl⟩
      rw [findI, find_some (k := k) (by omega) h (fun j hj => hb j hj (by omega))]
      rfl
    · repeat (first | apply CW_seq | apply CW_region | apply RW_nil | apply thenQ_normal | apply thenQ_ret | apply thenQ_exit | apply blockQ_normal | apply blockQ_ret | apply blockQ_exit | (apply Xn; exact rfl) | apply CW_skip | apply CW_ret | apply CW_exit | apply CW_block | (apply CW_cf; exact rfl; exact bf) | (apply CW_ct; exact rfl; exact bt) | (apply RW_no; exact rfl; exact rfl; exact rfl; exact rfl; exact bn) | (apply RWu; exact rfl; exact rfl; exact rfl; exact rfl) | (apply RW_same; exact rfl; exact gk; exact op1) | (apply RW_box; exact rfl; exact gk; (first | exact T_alloc | exact T_boxA rfl | exact T_box1 rfl rfl); intro _) | (apply RW_st; exact gk; exact st1))
      refine ⟨k + 1, ⟨by omega, fun j hj hj' => ?_⟩, by omega, by exact sb, rfl, [], .refl _⟩
      by_cases e : j = k
      · subst e; exact h
      · exact hb j (by omega) hj'
  · repeat (first | apply CW_seq | apply CW_region | apply RW_nil | apply thenQ_normal | apply thenQ_ret | apply thenQ_exit | apply blockQ_normal | apply blockQ_ret | apply blockQ_exit | (apply Xn; exact rfl) | apply CW_skip | apply CW_ret | apply CW_exit | apply CW_block | (apply CW_cf; exact rfl; exact bf) | (apply CW_ct; exact rfl; exact bt) | (apply RW_no; exact rfl; exact rfl; exact rfl; exact rfl; exact bn) | (apply RWu; exact rfl; exact rfl; exact rfl; exact rfl) | (apply RW_same; exact rfl; exact gk; exact op1) | (apply RW_box; exact rfl; exact gk; (first | exact T_alloc | exact T_boxA rfl | exact T_box1 rfl rfl); intro _) | (apply RW_st; exact gk; exact st1))
    first | refine rR (H) (h := ?_) | refine rN (H) (h := ?_)
    refine ⟨?_, rfl, rfl⟩
    rw [findI, find_none (fun j hj => hb j (by omega) hj)]
    rfl

def methods (k : Int) : List S := if k = 0 then [sCharAt, sIndexOf, sSlice] else if k = 2 then [sPush, sPop, sJoin] else if k = 5 then [sThen, sResolve, sReject] else if k = 6 then [sNext] else []
theorem r13_methods {m : Mem} {H : Hp} {k : Int} :
    FnR Tryd.prog 38 #[.int .i64 k] m H fun v' m' H' => SlV m' v' (methods k) ∧ Mem.le m m' ∧ H = H' := by
  refine FnR.enter Tryd.func38 rfl Tryd.ntmps38 rfl fun s => ?_
  repeat (first | apply CW_seq | apply CW_region | apply RW_nil | apply thenQ_normal | apply thenQ_ret | apply thenQ_exit | apply blockQ_normal | apply blockQ_ret | apply blockQ_exit | (apply Xn; exact rfl) | apply CW_skip | apply CW_ret | apply CW_exit | apply CW_block | (apply CW_cf; exact rfl; exact bf) | (apply CW_ct; exact rfl; exact bt) | (apply RW_no; exact rfl; exact rfl; exact rfl; exact rfl; exact bn) | (apply RWu; exact rfl; exact rfl; exact rfl; exact rfl) | (apply RW_same; exact rfl; exact gk; exact op1) | (apply RW_box; exact rfl; exact gk; (first | exact T_alloc | exact T_boxA rfl | exact T_box1 rfl rfl); intro _) | (apply RW_st; exact gk; exact st1))
  refine CW_cond_dec rfl (fun h => ?_) (fun h => ?_)
  · have e : methods k = [sCharAt, sIndexOf, sSlice] := by simp [methods, h]
    rw [e]
    repeat (first | apply CW_seq | apply CW_region | apply RW_nil | apply thenQ_normal | apply thenQ_ret | apply thenQ_exit | apply blockQ_normal | apply blockQ_ret | apply blockQ_exit | (apply Xn; exact rfl) | apply CW_skip | apply CW_ret | apply CW_exit | apply CW_block | (apply CW_cf; exact rfl; exact bf) | (apply CW_ct; exact rfl; exact bt) | (apply RW_no; exact rfl; exact rfl; exact rfl; exact rfl; exact bn) | (apply RWu; exact rfl; exact rfl; exact rfl; exact rfl) | (apply RW_same; exact rfl; exact gk; exact op1) | (apply RW_box; exact rfl; exact gk; (first | exact T_alloc | exact T_boxA rfl | exact T_box1 rfl rfl); intro _) | (apply RW_st; exact gk; exact st1))
    refine RW_any rfl (by exact gk) (T_buildSlice (by rfl) (by decide) (by exact bd)) ?_
    rintro _ _ _ _ ⟨b2, rfl, rfl, rfl⟩
    refine RW.freeze (own_three (x := sCharAt) (y := sIndexOf) (z := sSlice)) (.refl _) fun m1 hle hs1 => ?_
    repeat (first | apply CW_seq | apply CW_region | apply RW_nil | apply thenQ_normal | apply thenQ_ret | apply thenQ_exit | apply blockQ_normal | apply blockQ_ret | apply blockQ_exit | (apply Xn; exact rfl) | apply CW_skip | apply CW_ret | apply CW_exit | apply CW_block | (apply CW_cf; exact rfl; exact bf) | (apply CW_ct; exact rfl; exact bt) | (apply RW_no; exact rfl; exact rfl; exact rfl; exact rfl; exact bn) | (apply RWu; exact rfl; exact rfl; exact rfl; exact rfl) | (apply RW_same; exact rfl; exact gk; exact op1) | (apply RW_box; exact rfl; exact gk; (first | exact T_alloc | exact T_boxA rfl | exact T_box1 rfl rfl); intro _) | (apply RW_st; exact gk; exact st1))
    first | refine rR _ (hs := List.Sublist.refl _) (h := ?_) | refine rN _ (hs := List.Sublist.refl _) (h := ?_)
    exact ⟨⟨_, _, rfl, Nat.le_refl _, hs1⟩, hle, rfl⟩
  have n0 := h
  repeat (first | apply CW_seq | apply CW_region | apply RW_nil | apply thenQ_normal | apply thenQ_ret | apply thenQ_exit | apply blockQ_normal | apply blockQ_ret | apply blockQ_exit | (apply Xn; exact rfl) | apply CW_skip | apply CW_ret | apply CW_exit | apply CW_block | (apply CW_cf; exact rfl; exact bf) | (apply CW_ct; exact rfl; exact bt) | (apply RW_no; exact rfl; exact rfl; exact rfl; exact rfl; exact bn) | (apply RWu; exact rfl; exact rfl; exact rfl; exact rfl) | (apply RW_same; exact rfl; exact gk; exact op1) | (apply RW_box; exact rfl; exact gk; (first | exact T_alloc | exact T_boxA rfl | exact T_box1 rfl rfl); intro _) | (apply RW_st; exact gk; exact st1))
  refine CW_cond_dec rfl (fun h => ?_) (fun h => ?_)
  · have e : methods k = [sPush, sPop, sJoin] := by simp [methods, h]
    rw [e]
    repeat (first | apply CW_seq | apply CW_region | apply RW_nil | apply thenQ_normal | apply thenQ_ret | apply thenQ_exit | apply blockQ_normal | apply blockQ_ret | apply blockQ_exit | (apply Xn; exact rfl) | apply CW_skip | apply CW_ret | apply CW_exit | apply CW_block | (apply CW_cf; exact rfl; exact bf) | (apply CW_ct; exact rfl; exact bt) | (apply RW_no; exact rfl; exact rfl; exact rfl; exact rfl; exact bn) | (apply RWu; exact rfl; exact rfl; exact rfl; exact rfl) | (apply RW_same; exact rfl; exact gk; exact op1) | (apply RW_box; exact rfl; exact gk; (first | exact T_alloc | exact T_boxA rfl | exact T_box1 rfl rfl); intro _) | (apply RW_st; exact gk; exact st1))
    refine RW_any rfl (by exact gk) (T_buildSlice (by rfl) (by decide) (by exact bd)) ?_
    rintro _ _ _ _ ⟨b2, rfl, rfl, rfl⟩
    refine RW.freeze (own_three (x := sPush) (y := sPop) (z := sJoin)) (.refl _) fun m1 hle hs1 => ?_
    repeat (first | apply CW_seq | apply CW_region | apply RW_nil | apply thenQ_normal | apply thenQ_ret | apply thenQ_exit | apply blockQ_normal | apply blockQ_ret | apply blockQ_exit | (apply Xn; exact rfl) | apply CW_skip | apply CW_ret | apply CW_exit | apply CW_block | (apply CW_cf; exact rfl; exact bf) | (apply CW_ct; exact rfl; exact bt) | (apply RW_no; exact rfl; exact rfl; exact rfl; exact rfl; exact bn) | (apply RWu; exact rfl; exact rfl; exact rfl; exact rfl) | (apply RW_same; exact rfl; exact gk; exact op1) | (apply RW_box; exact rfl; exact gk; (first | exact T_alloc | exact T_boxA rfl | exact T_box1 rfl rfl); intro _) | (apply RW_st; exact gk; exact st1))
    first | refine rR _ (hs := List.Sublist.refl _) (h := ?_) | refine rN _ (hs := List.Sublist.refl _) (h := ?_)
    exact ⟨⟨_, _, rfl, Nat.le_refl _, hs1⟩, hle, rfl⟩
  have n2 := h
  repeat (first | apply CW_seq | apply CW_region | apply RW_nil | apply thenQ_normal | apply thenQ_ret | apply thenQ_exit | apply blockQ_normal | apply blockQ_ret | apply blockQ_exit | (apply Xn; exact rfl) | apply CW_skip | apply CW_ret | apply CW_exit | apply CW_block | (apply CW_cf; exact rfl; exact bf) | (apply CW_ct; exact rfl; exact bt) | (apply RW_no; exact rfl; exact rfl; exact rfl; exact rfl; exact bn) | (apply RWu; exact rfl; exact rfl; exact rfl; exact rfl) | (apply RW_same; exact rfl; exact gk; exact op1) | (apply RW_box; exact rfl; exact gk; (first | exact T_alloc | exact T_boxA rfl | exact T_box1 rfl rfl); intro _) | (apply RW_st; exact gk; exact st1))
  refine CW_cond_dec rfl (fun h => ?_) (fun h => ?_)
  · have e : methods k = [sThen, sResolve, sReject] := by simp [methods, h]
    rw [e]
    repeat (first | apply CW_seq | apply CW_region | apply RW_nil | apply thenQ_normal | apply thenQ_ret | apply thenQ_exit | apply blockQ_normal | apply blockQ_ret | apply blockQ_exit | (apply Xn; exact rfl) | apply CW_skip | apply CW_ret | apply CW_exit | apply CW_block | (apply CW_cf; exact rfl; exact bf) | (apply CW_ct; exact rfl; exact bt) | (apply RW_no; exact rfl; exact rfl; exact rfl; exact rfl; exact bn) | (apply RWu; exact rfl; exact rfl; exact rfl; exact rfl) | (apply RW_same; exact rfl; exact gk; exact op1) | (apply RW_box; exact rfl; exact gk; (first | exact T_alloc | exact T_boxA rfl | exact T_box1 rfl rfl); intro _) | (apply RW_st; exact gk; exact st1))
    refine RW_any rfl (by exact gk) (T_buildSlice (by rfl) (by decide) (by exact bd)) ?_
    rintro _ _ _ _ ⟨b2, rfl, rfl, rfl⟩
    refine RW.freeze (own_three (x := sThen) (y := sResolve) (z := sReject)) (.refl _) fun m1 hle hs1 => ?_
    repeat (first | apply CW_seq | apply CW_region | apply RW_nil | apply thenQ_normal | apply thenQ_ret | apply thenQ_exit | apply blockQ_normal | apply blockQ_ret | apply blockQ_exit | (apply Xn; exact rfl) | apply CW_skip | apply CW_ret | apply CW_exit | apply CW_block | (apply CW_cf; exact rfl; exact bf) | (apply CW_ct; exact rfl; exact bt) | (apply RW_no; exact rfl; exact rfl; exact rfl; exact rfl; exact bn) | (apply RWu; exact rfl; exact rfl; exact rfl; exact rfl) | (apply RW_same; exact rfl; exact gk; exact op1) | (apply RW_box; exact rfl; exact gk; (first | exact T_alloc | exact T_boxA rfl | exact T_box1 rfl rfl); intro _) | (apply RW_st; exact gk; exact st1))
    first | refine rR _ (hs := List.Sublist.refl _) (h := ?_) | refine rN _ (hs := List.Sublist.refl _) (h := ?_)
    exact ⟨⟨_, _, rfl, Nat.le_refl _, hs1⟩, hle, rfl⟩
  have n5 := h
  repeat (first | apply CW_seq | apply CW_region | apply RW_nil | apply thenQ_normal | apply thenQ_ret | apply thenQ_exit | apply blockQ_normal | apply blockQ_ret | apply blockQ_exit | (apply Xn; exact rfl) | apply CW_skip | apply CW_ret | apply CW_exit | apply CW_block | (apply CW_cf; exact rfl; exact bf) | (apply CW_ct; exact rfl; exact bt) | (apply RW_no; exact rfl; exact rfl; exact rfl; exact rfl; exact bn) | (apply RWu; exact rfl; exact rfl; exact rfl; exact rfl) | (apply RW_same; exact rfl; exact gk; exact op1) | (apply RW_box; exact rfl; exact gk; (first | exact T_alloc | exact T_boxA rfl | exact T_box1 rfl rfl); intro _) | (apply RW_st; exact gk; exact st1))
  refine CW_cond_dec rfl (fun h => ?_) (fun h => ?_)
  · have e : methods k = [sNext] := by simp [methods, h]
    rw [e]
    repeat (first | apply CW_seq | apply CW_region | apply RW_nil | apply thenQ_normal | apply thenQ_ret | apply thenQ_exit | apply blockQ_normal | apply blockQ_ret | apply blockQ_exit | (apply Xn; exact rfl) | apply CW_skip | apply CW_ret | apply CW_exit | apply CW_block | (apply CW_cf; exact rfl; exact bf) | (apply CW_ct; exact rfl; exact bt) | (apply RW_no; exact rfl; exact rfl; exact rfl; exact rfl; exact bn) | (apply RWu; exact rfl; exact rfl; exact rfl; exact rfl) | (apply RW_same; exact rfl; exact gk; exact op1) | (apply RW_box; exact rfl; exact gk; (first | exact T_alloc | exact T_boxA rfl | exact T_box1 rfl rfl); intro _) | (apply RW_st; exact gk; exact st1))
    refine RW_any rfl (by exact gk) (T_buildSlice (by rfl) (by decide) (by exact bd)) ?_
    rintro _ _ _ _ ⟨b2, rfl, rfl, rfl⟩
    refine RW.freeze (own_one (x := sNext)) (.refl _) fun m1 hle hs1 => ?_
    repeat (first | apply CW_seq | apply CW_region | apply RW_nil | apply thenQ_normal | apply thenQ_ret | apply thenQ_exit | apply blockQ_normal | apply blockQ_ret | apply blockQ_exit | (apply Xn; exact rfl) | apply CW_skip | apply CW_ret | apply CW_exit | apply CW_block | (apply CW_cf; exact rfl; exact bf) | (apply CW_ct; exact rfl; exact bt) | (apply RW_no; exact rfl; exact rfl; exact rfl; exact rfl; exact bn) | (apply RWu; exact rfl; exact rfl; exact rfl; exact rfl) | (apply RW_same; exact rfl; exact gk; exact op1) | (apply RW_box; exact rfl; exact gk; (first | exact T_alloc | exact T_boxA rfl | exact T_box1 rfl rfl); intro _) | (apply RW_st; exact gk; exact st1))
    first | refine rR _ (hs := List.Sublist.refl _) (h := ?_) | refine rN _ (hs := List.Sublist.refl _) (h := ?_)
    exact ⟨⟨_, _, rfl, Nat.le_refl _, hs1⟩, hle, rfl⟩
  · have e : methods k = [] := by simp [methods, n0, n2, n5, h]
    rw [e]
    repeat (first | apply CW_seq | apply CW_region | apply RW_nil | apply thenQ_normal | apply thenQ_ret | apply thenQ_exit | apply blockQ_normal | apply blockQ_ret | apply blockQ_exit | (apply Xn; exact rfl) | apply CW_skip | apply CW_ret | apply CW_exit | apply CW_block | (apply CW_cf; exact rfl; exact bf) | (apply CW_ct; exact rfl; exact bt) | (apply RW_no; exact rfl; exact rfl; exact rfl; exact rfl; exact bn) | (apply RWu; exact rfl; exact rfl; exact rfl; exact rfl) | (apply RW_same; exact rfl; exact gk; exact op1) | (apply RW_box; exact rfl; exact gk; (first | exact T_alloc | exact T_boxA rfl | exact T_box1 rfl rfl); intro _) | (apply RW_st; exact gk; exact st1))
    first | refine rR _ (hs := List.Sublist.refl _) (h := ?_) | refine rN _ (hs := List.Sublist.refl _) (h := ?_)
    exact ⟨⟨none, 0, rfl, Nat.le_refl _, .nil⟩, Mem.le.refl _, rfl⟩
end Go.Proofs.YtbhpofplencjgaaDoor
