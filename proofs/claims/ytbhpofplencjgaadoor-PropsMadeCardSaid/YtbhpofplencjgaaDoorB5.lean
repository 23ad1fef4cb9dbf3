/- The reference's lists, changed. Conditions: none. -/
import Derived.Test.YtbhpofplencjgaaDoorB4
namespace Go.Proofs.YtbhpofplencjgaaDoor
open Go Go.WL
set_option linter.unusedSimpArgs false
set_option linter.unusedVariables false
attribute [local irreducible] OpP OpT RW CW AW FnR FnP BinR At thenQ blockQ bodyQ

theorem r13_with {m : Mem} {H : Hp} {lv kv vv : Value} {cells : List Cel} {c : Cel} {i : Int} (hl : SlV m lv cells) (hn : cells.length ≤ 4096) (hi : 1 ≤ i ∧ i ≤ cells.length) (hkv : SlV m kv c.keys) (hvv : SlV m vv c.vals) :
    FnR Tryd.prog 43 #[lv, .int .i64 i, .agg #[.int .i64 c.kind, .int .i64 c.a, .int .i64 c.b, kv, vv]] m H fun v' m' H' => SlV m' v' (cells.set (i - 1).toNat c) ∧ Mem.le m m' ∧ H' = H := by
  have hkv0 := hkv
  have hvv0 := hvv
  obtain ⟨ak, ck, rfl, -, -⟩ := hkv0
  obtain ⟨av, cv, rfl, -, -⟩ := hvv0
  obtain ⟨la, lc, rfl, hlc, xs, hx1, hx2⟩ := hl
  obtain ⟨lb, lo, rfl, hats⟩ := hx2.resolve_left (by intro e; rw [e] at hi; simp at hi; omega)
  refine FnR.enter Tryd.func43 rfl Tryd.ntmps43 rfl fun s => ?_
  repeat (first | apply CW_seq | apply CW_region | apply RW_nil | apply thenQ_normal | apply thenQ_ret | apply thenQ_exit | apply blockQ_normal | apply blockQ_ret | apply blockQ_exit | (apply Xn; exact rfl) | apply CW_skip | apply CW_ret | apply CW_exit | apply CW_block | (apply CW_cf; exact rfl; exact bf) | (apply CW_ct; exact rfl; exact bt) | (apply RW_no; exact rfl; exact rfl; exact rfl; exact rfl; exact bn) | (apply RWu; exact rfl; exact rfl; exact rfl; exact rfl) | (apply RW_same; exact rfl; exact gk; exact op1) | (apply RW_box; exact rfl; exact gk; (first | exact T_alloc | exact T_boxA rfl | exact T_box1 rfl rfl); intro _) | (apply RW_st; exact gk; exact st1))
  rename_i b5
  refine RW_any rfl (by exact gk) (T_buildSlice (l' := []) (by rfl) (by decide) (by exact bd)) ?_
  rintro _ _ _ _ ⟨b8, rfl, rfl, rfl⟩
  repeat (first | apply CW_seq | apply CW_region | apply RW_nil | apply thenQ_normal | apply thenQ_ret | apply thenQ_exit | apply blockQ_normal | apply blockQ_ret | apply blockQ_exit | (apply Xn; exact rfl) | apply CW_skip | apply CW_ret | apply CW_exit | apply CW_block | (apply CW_cf; exact rfl; exact bf) | (apply CW_ct; exact rfl; exact bt) | (apply RW_no; exact rfl; exact rfl; exact rfl; exact rfl; exact bn) | (apply RWu; exact rfl; exact rfl; exact rfl; exact rfl) | (apply RW_same; exact rfl; exact gk; exact op1) | (apply RW_box; exact rfl; exact gk; (first | exact T_alloc | exact T_boxA rfl | exact T_box1 rfl rfl); intro _) | (apply RW_st; exact gk; exact st1))
  refine RW_any rfl (by exact gk) (T_append (xs := []) (hs := [(b8, box 31 [])]) (F := (b5, box 31 [.int .i64 c.kind, .int .i64 c.a, .int .i64 c.b, .slice ak c.keys.length ck, .slice av c.vals.length cv]) :: H) (by rfl) rfl rfl (OwnS.box (cur := []) rfl) (.refl _) hats.h hx1.len hx1.one (by omega) (by omega)) ?_
  rintro _ _ _ _ ⟨a', cap', hs', rfl, hw, rfl, rfl⟩
  have ho : OwnT 31 m a' cells.length cap' cells hs' := ⟨rfl, xs, hx1, by simpa using hw⟩
  obtain ⟨bv, cur, rfl, rfl, hcl, hos⟩ := ho.set (i - 1).toNat (by omega)
  rw [show 0 + cells.length = cells.length by omega]
  repeat (first | apply CW_seq | apply CW_region | apply RW_nil | apply thenQ_normal | apply thenQ_ret | apply thenQ_exit | apply blockQ_normal | apply blockQ_ret | apply blockQ_exit | (apply Xn; exact rfl) | apply CW_skip | apply CW_ret | apply CW_exit | apply CW_block | (apply CW_cf; exact rfl; exact bf) | (apply CW_ct; exact rfl; exact bt) | (apply RW_no; exact rfl; exact rfl; exact rfl; exact rfl; exact bn) | (apply RWu; exact rfl; exact rfl; exact rfl; exact rfl) | (apply RW_same; exact rfl; exact gk; exact op1) | (apply RW_box; exact rfl; exact gk; (first | exact T_alloc | exact T_boxA rfl | exact T_box1 rfl rfl); intro _) | (apply RW_st; exact gk; exact st1))
  have hcl5 : ((i - 1).toNat + 1) * 5 ≤ cur.length := hcl
  have hcell : Rep.cells m c [.int .i64 c.kind, .int .i64 c.a, .int .i64 c.b, .slice ak c.keys.length ck, .slice av c.vals.length cv] := ⟨_, _, rfl, hkv, hvv⟩
  refine RW_same rfl (by exact gk) (T_indexAddr rfl rfl (by omega)) ?_
  refine RW_st (by exact gk) (T_storeP (l := cur) rfl rfl rfl rfl (by show 0 + (i - 1).toNat * 5 + 5 ≤ cur.length; omega) (by simp only [Nat.zero_add]; repeat (first | exact Upd.head | apply Upd.tail | apply Upd.app))) ?_
  repeat (first | apply CW_region | apply RW_nil | apply thenQ_normal | apply thenQ_ret | apply thenQ_exit | apply blockQ_normal | apply blockQ_ret | apply blockQ_exit | (apply Xn; exact rfl) | apply CW_skip | apply CW_ret | apply CW_exit | apply CW_block | (apply CW_cf; exact rfl; exact bf) | (apply CW_ct; exact rfl; exact bt) | (apply RW_no; exact rfl; exact rfl; exact rfl; exact rfl; exact bn) | (apply RWu; exact rfl; exact rfl; exact rfl; exact rfl) | (apply RW_same; exact rfl; exact gk; exact op1) | (apply RW_box; exact rfl; exact gk; (first | exact T_alloc | exact T_boxA rfl | exact T_box1 rfl rfl); intro _) | (apply RW_st; exact gk; exact st1))
  refine CW.freeze (hos m c _ (Mem.le.refl m) hcell) (by exact pm) fun m2 hle2 hs2 => ?_
  repeat (first | apply CW_seq | apply CW_region | apply RW_nil | apply thenQ_normal | apply thenQ_ret | apply thenQ_exit | apply blockQ_normal | apply blockQ_ret | apply blockQ_exit | (apply Xn; exact rfl) | apply CW_skip | apply CW_ret | apply CW_exit | apply CW_block | (apply CW_cf; exact rfl; exact bf) | (apply CW_ct; exact rfl; exact bt) | (apply RW_no; exact rfl; exact rfl; exact rfl; exact rfl; exact bn) | (apply RWu; exact rfl; exact rfl; exact rfl; exact rfl) | (apply RW_same; exact rfl; exact gk; exact op1) | (apply RW_box; exact rfl; exact gk; (first | exact T_alloc | exact T_boxA rfl | exact T_box1 rfl rfl); intro _) | (apply RW_st; exact gk; exact st1))
  first | refine rR (H) (h := ?_) | refine rN (H) (h := ?_)
  exact ⟨⟨_, cap', by simp [tupleOf], by rw [List.length_set]; exact ho.cap, hs2⟩, hle2, rfl⟩
end Go.Proofs.YtbhpofplencjgaaDoor
