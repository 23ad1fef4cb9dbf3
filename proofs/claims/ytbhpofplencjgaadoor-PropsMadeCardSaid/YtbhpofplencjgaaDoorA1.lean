/- What is had by a key, and set by a key: arrays and texts. Conditions: none. -/
import Derived.Test.YtbhpofplencjgaaDoorP11
import Derived.Test.YtbhpofplencjgaaDoorL7
namespace Go.Proofs.YtbhpofplencjgaaDoor
open Go Go.WL
set_option linter.unusedSimpArgs false
set_option linter.unusedVariables false
attribute [local irreducible] OpP OpT RW CW AW FnR FnP BinR At thenQ blockQ bodyQ

theorem props_isKey {m : Mem} {H : Hp} {v : Val} :
    FnR Tryd.prog 25 #[.agg ⟨v.cs⟩] m H fun v' m' H' => v' = .bool (decide (v.k = 3 ∨ v.k = 4)) ∧ m = m' ∧ H' = H := by
  refine FnR.enter Tryd.func25 rfl Tryd.ntmps25 rfl fun s => ?_
  repeat (first | apply CW_seq | apply CW_region | apply RW_nil | apply thenQ_normal | apply thenQ_ret | apply thenQ_exit | apply blockQ_normal | apply blockQ_ret | apply blockQ_exit | (apply Xn; exact rfl) | apply CW_skip | apply CW_ret | apply CW_exit | apply CW_block | (apply CW_cf; exact rfl; exact bf) | (apply CW_ct; exact rfl; exact bt) | (apply RW_no; exact rfl; exact rfl; exact rfl; exact rfl; exact bn) | (apply RWu; exact rfl; exact rfl; exact rfl; exact rfl) | (apply RW_same; exact rfl; exact gk; exact op1) | (apply RW_box; exact rfl; exact gk; (first | exact T_alloc | exact T_boxA rfl | exact T_box1 rfl rfl); intro _) | (apply RW_st; exact gk; exact st1))
  refine RW_partd 6 rfl (fun h => ?_) (fun h => ?_)
  · have h0 := h
    repeat (first | apply CW_seq | apply CW_region | apply RW_nil | apply thenQ_normal | apply thenQ_ret | apply thenQ_exit | apply blockQ_normal | apply blockQ_ret | apply blockQ_exit | (apply Xn; exact rfl) | apply CW_skip | apply CW_ret | apply CW_exit | apply CW_block | (apply CW_cf; exact rfl; exact bf) | (apply CW_ct; exact rfl; exact bt) | (apply RW_no; exact rfl; exact rfl; exact rfl; exact rfl; exact bn) | (apply RWu; exact rfl; exact rfl; exact rfl; exact rfl) | (apply RW_same; exact rfl; exact gk; exact op1) | (apply RW_box; exact rfl; exact gk; (first | exact T_alloc | exact T_boxA rfl | exact T_box1 rfl rfl); intro _) | (apply RW_st; exact gk; exact st1))
    first | refine rR (H) (h := ?_) | refine rN (H) (h := ?_)
    exact ⟨by simp [tupleOf, h0], rfl, rfl⟩
  · have h0 := h
    repeat (first | apply CW_seq | apply CW_region | apply RW_nil | apply thenQ_normal | apply thenQ_ret | apply thenQ_exit | apply blockQ_normal | apply blockQ_ret | apply blockQ_exit | (apply Xn; exact rfl) | apply CW_skip | apply CW_ret | apply CW_exit | apply CW_block | (apply CW_cf; exact rfl; exact bf) | (apply CW_ct; exact rfl; exact bt) | (apply RW_no; exact rfl; exact rfl; exact rfl; exact rfl; exact bn) | (apply RWu; exact rfl; exact rfl; exact rfl; exact rfl) | (apply RW_same; exact rfl; exact gk; exact op1) | (apply RW_box; exact rfl; exact gk; (first | exact T_alloc | exact T_boxA rfl | exact T_box1 rfl rfl); intro _) | (apply RW_st; exact gk; exact st1))
    first | refine rR (H) (h := ?_) | refine rN (H) (h := ?_)
    exact ⟨by simp [tupleOf, h0], rfl, rfl⟩

/-- a place of an array set -/
def putA (c : Cel) (n : Int) (x : Val) : Option Cel :=
  if n < 0 ∨ n > c.vals.length ∨ n ≥ 1024 then none
  else if n = c.vals.length then some { c with vals := c.vals ++ [x] } else some { c with vals := c.vals.set n.toNat x }

theorem props_PutA {hb : Nat} {m : Mem} {hs F : Hp} {cells : List Cel} {v key x : Val} {c : Cel} (g : Good m hb cells hs) (hv : v.k = 5) (hr : 1 ≤ v.n ∧ v.n ≤ cells.length) (hc : cells[(v.n - 1).toNat]? = some c) (hkind : c.kind = 2) (hkey : key.k = 3)
    (hkn : -9223372036854775808 ≤ key.n ∧ key.n ≤ 9223372036854775807) :
    FnR Tryd.prog 9 #[.pointer (some ⟨hb, 0, none⟩), .agg ⟨v.cs⟩, .agg ⟨key.cs⟩, .agg ⟨x.cs⟩] m (hs ++ F) fun v' m' H' => ∃ hs',
      v' = .int .i64 (match putA c key.n x with | none => 7 | some _ => 0) ∧ Good m' hb (match putA c key.n x with | none => cells | some d => cells.set (v.n - 1).toNat d) hs' ∧ H' = hs' ++ F := by
  refine FnR.enter Tryd.func9 rfl Tryd.ntmps9 rfl fun s => ?_
  repeat (first | apply CW_seq | apply CW_region | apply RW_nil | apply thenQ_normal | apply thenQ_ret | apply thenQ_exit | apply blockQ_normal | apply blockQ_ret | apply blockQ_exit | (apply Xn; exact rfl) | apply CW_skip | apply CW_ret | apply CW_exit | apply CW_block | (apply CW_cf; exact rfl; exact bf) | (apply CW_ct; exact rfl; exact bt) | (apply RW_no; exact rfl; exact rfl; exact rfl; exact rfl; exact bn) | (apply RWu; exact rfl; exact rfl; exact rfl; exact rfl) | (apply RW_same; exact rfl; exact gk; exact op1) | (apply RW_box; exact rfl; exact gk; (first | exact T_alloc | exact T_boxA rfl | exact T_box1 rfl rfl); intro _) | (apply RW_st; exact gk; exact st1))
  rename_i b5 b6 b7
  refine RW_call rfl (by exact gk) rfl props_isKey ?_
  rintro _ _ _ _ ⟨rfl, rfl, rfl⟩
  rw [show decide (key.k = 3 ∨ key.k = 4) = true by simp [hkey]]
  repeat (first | apply CW_seq | apply CW_region | apply RW_nil | apply thenQ_normal | apply thenQ_ret | apply thenQ_exit | apply blockQ_normal | apply blockQ_ret | apply blockQ_exit | (apply Xn; exact rfl) | apply CW_skip | apply CW_ret | apply CW_exit | apply CW_block | (apply CW_cf; exact rfl; exact bf) | (apply CW_ct; exact rfl; exact bt) | (apply RW_no; exact rfl; exact rfl; exact rfl; exact rfl; exact bn) | (apply RWu; exact rfl; exact rfl; exact rfl; exact rfl) | (apply RW_same; exact rfl; exact gk; exact op1) | (apply RW_box; exact rfl; exact gk; (first | exact T_alloc | exact T_boxA rfl | exact T_box1 rfl rfl); intro _) | (apply RW_st; exact gk; exact st1))
  have hidx : (v.n - 1).toNat < cells.length := by omega
  have hce := props_cell (F := [(b7, box 33 x.cs), (b6, box 33 key.cs), (b5, box 33 v.cs)] ++ F) (k := 2) g hv hr
  have hsm := g.small _ (List.getElem_mem hidx)
  have hset := fun (d : Cel) => g.wp.set _ hidx d
  rw [List.getElem?_eq_getElem hidx] at hc
  generalize cells[(v.n - 1).toNat] = c0 at *
  cases Option.some.inj hc
  rw [decide_eq_true hkind] at hce
  refine RW_call rfl (by exact gk) rfl (FnR.perm (by exact pm) hce) ?_
  rintro _ _ _ _ ⟨kv, vv, h1, h2, rfl, ⟨a1, p1, rfl, hp1, ho1⟩, ⟨a2, p2, rfl, hp2, ho2⟩, rfl, rfl⟩
  repeat (first | apply CW_seq | apply CW_region | apply RW_nil | apply thenQ_normal | apply thenQ_ret | apply thenQ_exit | apply blockQ_normal | apply blockQ_ret | apply blockQ_exit | (apply Xn; exact rfl) | apply CW_skip | apply CW_ret | apply CW_exit | apply CW_block | (apply CW_cf; exact rfl; exact bf) | (apply CW_ct; exact rfl; exact bt) | (apply RW_no; exact rfl; exact rfl; exact rfl; exact rfl; exact bn) | (apply RWu; exact rfl; exact rfl; exact rfl; exact rfl) | (apply RW_same; exact rfl; exact gk; exact op1) | (apply RW_box; exact rfl; exact gk; (first | exact T_alloc | exact T_boxA rfl | exact T_box1 rfl rfl); intro _) | (apply RW_st; exact gk; exact st1))
  rename_i b9
  refine RW_partn 27 rfl (fun h => ?_) (fun h => ?_)
  · exact absurd hkey h
  have hl2 : c.vals.length ≤ 1000000 := hsm.2
  repeat (first | apply CW_region | apply RW_nil | apply thenQ_normal | apply thenQ_ret | apply thenQ_exit | apply blockQ_normal | apply blockQ_ret | apply blockQ_exit | (apply Xn; exact rfl) | apply CW_skip | apply CW_ret | apply CW_exit | apply CW_block | (apply CW_cf; exact rfl; exact bf) | (apply CW_ct; exact rfl; exact bt) | (apply RW_no; exact rfl; exact rfl; exact rfl; exact rfl; exact bn) | (apply RWu; exact rfl; exact rfl; exact rfl; exact rfl) | (apply RW_same; exact rfl; exact gk; exact op1) | (apply RW_box; exact rfl; exact gk; (first | exact T_alloc | exact T_boxA rfl | exact T_box1 rfl rfl); intro _) | (apply RW_st; exact gk; exact st1))
  refine CW_cut (fun env' m' H' => ∃ vals' vv h2' L, Env.sub [(0, .pointer (some ⟨hb, 0, none⟩)), (5, .pointer (some ⟨b5, 0, none⟩)), (9, .pointer (some ⟨b9, 0, none⟩))] env' ∧ m = m' ∧
    H'.Perm (L ++ ((b9, box 31 [.int .i64 c.kind, .int .i64 c.a, .int .i64 c.b, .slice a1 c.keys.length p1, vv]) :: (b5, box 33 v.cs) :: (h1 ++ (h2' ++ (hs ++ F))))) ∧
    Cop 33 m vv vals' h2' ∧ putA c key.n x = some { c with vals := vals' } ∧ vals'.length ≤ 1000000) ?_ ?_
  · repeat (first | apply CW_seq | apply CW_region | apply RW_nil | apply thenQ_normal | apply thenQ_ret | apply thenQ_exit | apply blockQ_normal | apply blockQ_ret | apply blockQ_exit | (apply Xn; exact rfl) | apply CW_skip | apply CW_ret | apply CW_exit | apply CW_block | (apply CW_cf; exact rfl; exact bf) | (apply CW_ct; exact rfl; exact bt) | (apply RW_no; exact rfl; exact rfl; exact rfl; exact rfl; exact bn) | (apply RWu; exact rfl; exact rfl; exact rfl; exact rfl) | (apply RW_same; exact rfl; exact gk; exact op1) | (apply RW_box; exact rfl; exact gk; (first | exact T_alloc | exact T_boxA rfl | exact T_box1 rfl rfl); intro _) | (apply RW_st; exact gk; exact st1))
    refine RW_partd 47 rfl (fun h => ?_) (fun h => ?_)
    · have hbad : putA c key.n x = none := by unfold putA; rw [if_pos (by omega)]
      rw [hbad]
      repeat (first | apply CW_seq | apply CW_region | apply RW_nil | apply thenQ_normal | apply thenQ_ret | apply thenQ_exit | apply blockQ_normal | apply blockQ_ret | apply blockQ_exit | (apply Xn; exact rfl) | apply CW_skip | apply CW_ret | apply CW_exit | apply CW_block | (apply CW_cf; exact rfl; exact bf) | (apply CW_ct; exact rfl; exact bt) | (apply RW_no; exact rfl; exact rfl; exact rfl; exact rfl; exact bn) | (apply RWu; exact rfl; exact rfl; exact rfl; exact rfl) | (apply RW_same; exact rfl; exact gk; exact op1) | (apply RW_box; exact rfl; exact gk; (first | exact T_alloc | exact T_boxA rfl | exact T_box1 rfl rfl); intro _) | (apply RW_st; exact gk; exact st1))
      first | refine rR (hs ++ F) (h := ?_) | refine rN (hs ++ F) (h := ?_)
      exact ⟨hs, rfl, g, rfl⟩
    have n0 := h
    repeat (first | apply CW_seq | apply CW_region | apply RW_nil | apply thenQ_normal | apply thenQ_ret | apply thenQ_exit | apply blockQ_normal | apply blockQ_ret | apply blockQ_exit | (apply Xn; exact rfl) | apply CW_skip | apply CW_ret | apply CW_exit | apply CW_block | (apply CW_cf; exact rfl; exact bf) | (apply CW_ct; exact rfl; exact bt) | (apply RW_no; exact rfl; exact rfl; exact rfl; exact rfl; exact bn) | (apply RWu; exact rfl; exact rfl; exact rfl; exact rfl) | (apply RW_same; exact rfl; exact gk; exact op1) | (apply RW_box; exact rfl; exact gk; (first | exact T_alloc | exact T_boxA rfl | exact T_box1 rfl rfl); intro _) | (apply RW_st; exact gk; exact st1))
    refine RW_partd 55 rfl (fun h => ?_) (fun h => ?_)
    · have hbad : putA c key.n x = none := by unfold putA; rw [if_pos (by omega)]
      rw [hbad]
      repeat (first | apply CW_seq | apply CW_region | apply RW_nil | apply thenQ_normal | apply thenQ_ret | apply thenQ_exit | apply blockQ_normal | apply blockQ_ret | apply blockQ_exit | (apply Xn; exact rfl) | apply CW_skip | apply CW_ret | apply CW_exit | apply CW_block | (apply CW_cf; exact rfl; exact bf) | (apply CW_ct; exact rfl; exact bt) | (apply RW_no; exact rfl; exact rfl; exact rfl; exact rfl; exact bn) | (apply RWu; exact rfl; exact rfl; exact rfl; exact rfl) | (apply RW_same; exact rfl; exact gk; exact op1) | (apply RW_box; exact rfl; exact gk; (first | exact T_alloc | exact T_boxA rfl | exact T_box1 rfl rfl); intro _) | (apply RW_st; exact gk; exact st1))
      first | refine rR (hs ++ F) (h := ?_) | refine rN (hs ++ F) (h := ?_)
      exact ⟨hs, rfl, g, rfl⟩
    have n1 := h
    repeat (first | apply CW_seq | apply CW_region | apply RW_nil | apply thenQ_normal | apply thenQ_ret | apply thenQ_exit | apply blockQ_normal | apply blockQ_ret | apply blockQ_exit | (apply Xn; exact rfl) | apply CW_skip | apply CW_ret | apply CW_exit | apply CW_block | (apply CW_cf; exact rfl; exact bf) | (apply CW_ct; exact rfl; exact bt) | (apply RW_no; exact rfl; exact rfl; exact rfl; exact rfl; exact bn) | (apply RWu; exact rfl; exact rfl; exact rfl; exact rfl) | (apply RW_same; exact rfl; exact gk; exact op1) | (apply RW_box; exact rfl; exact gk; (first | exact T_alloc | exact T_boxA rfl | exact T_box1 rfl rfl); intro _) | (apply RW_st; exact gk; exact st1))
    refine CW_cond_dec rfl (fun h => ?_) (fun h => ?_)
    · have hbad : putA c key.n x = none := by unfold putA; rw [if_pos (by omega)]
      rw [hbad]
      repeat (first | apply CW_seq | apply CW_region | apply RW_nil | apply thenQ_normal | apply thenQ_ret | apply thenQ_exit | apply blockQ_normal | apply blockQ_ret | apply blockQ_exit | (apply Xn; exact rfl) | apply CW_skip | apply CW_ret | apply CW_exit | apply CW_block | (apply CW_cf; exact rfl; exact bf) | (apply CW_ct; exact rfl; exact bt) | (apply RW_no; exact rfl; exact rfl; exact rfl; exact rfl; exact bn) | (apply RWu; exact rfl; exact rfl; exact rfl; exact rfl) | (apply RW_same; exact rfl; exact gk; exact op1) | (apply RW_box; exact rfl; exact gk; (first | exact T_alloc | exact T_boxA rfl | exact T_box1 rfl rfl); intro _) | (apply RW_st; exact gk; exact st1))
      first | refine rR (hs ++ F) (h := ?_) | refine rN (hs ++ F) (h := ?_)
      exact ⟨hs, rfl, g, rfl⟩
    have n2 := h
    repeat (first | apply CW_seq | apply CW_region | apply RW_nil | apply thenQ_normal | apply thenQ_ret | apply thenQ_exit | apply blockQ_normal | apply blockQ_ret | apply blockQ_exit | (apply Xn; exact rfl) | apply CW_skip | apply CW_ret | apply CW_exit | apply CW_block | (apply CW_cf; exact rfl; exact bf) | (apply CW_ct; exact rfl; exact bt) | (apply RW_no; exact rfl; exact rfl; exact rfl; exact rfl; exact bn) | (apply RWu; exact rfl; exact rfl; exact rfl; exact rfl) | (apply RW_same; exact rfl; exact gk; exact op1) | (apply RW_box; exact rfl; exact gk; (first | exact T_alloc | exact T_boxA rfl | exact T_box1 rfl rfl); intro _) | (apply RW_st; exact gk; exact st1))
    refine CW_cond_dec rfl (fun h => ?_) (fun h => ?_)
    · have hok : putA c key.n x = some { c with vals := c.vals ++ [x] } := by unfold putA; rw [if_neg (by omega), if_pos h]
      obtain ⟨_, xs2, hq2, hx2⟩ := ho2
      repeat (first | apply CW_seq | apply CW_region | apply RW_nil | apply thenQ_normal | apply thenQ_ret | apply thenQ_exit | apply blockQ_normal | apply blockQ_ret | apply blockQ_exit | (apply Xn; exact rfl) | apply CW_skip | apply CW_ret | apply CW_exit | apply CW_block | (apply CW_cf; exact rfl; exact bf) | (apply CW_ct; exact rfl; exact bt) | (apply RW_no; exact rfl; exact rfl; exact rfl; exact rfl; exact bn) | (apply RWu; exact rfl; exact rfl; exact rfl; exact rfl) | (apply RW_same; exact rfl; exact gk; exact op1) | (apply RW_box; exact rfl; exact gk; (first | exact T_alloc | exact T_boxA rfl | exact T_box1 rfl rfl); intro _) | (apply RW_st; exact gk; exact st1))
      refine RW_any rfl (by exact gk) (T_buildSlice (l' := x.cs) (by rfl) (by decide) (by exact bd)) ?_
      rintro _ _ _ _ ⟨k8, rfl, rfl, rfl⟩
      refine RW_any rfl (by exact gk) (T_append (news := x.cs) (by rfl) rfl rfl hx2 (by repeat (first | exact pull_here | exact pull_end | apply pull_skip | apply pull_app)) (Ats.own (by (repeat (first | exact List.Mem.head _ | apply List.Mem.tail | apply List.mem_append_right)))) rfl rfl (by omega) (by omega)) ?_
      rintro _ _ _ _ ⟨a2', p2', h2', rfl, hw2, rfl, rfl⟩
      repeat (first | apply CW_seq | apply CW_region | apply RW_nil | apply thenQ_normal | apply thenQ_ret | apply thenQ_exit | apply blockQ_normal | apply blockQ_ret | apply blockQ_exit | (apply Xn; exact rfl) | apply CW_skip | apply CW_ret | apply CW_exit | apply CW_block | (apply CW_cf; exact rfl; exact bf) | (apply CW_ct; exact rfl; exact bt) | (apply RW_no; exact rfl; exact rfl; exact rfl; exact rfl; exact bn) | (apply RWu; exact rfl; exact rfl; exact rfl; exact rfl) | (apply RW_same; exact rfl; exact gk; exact op1) | (apply RW_box; exact rfl; exact gk; (first | exact T_alloc | exact T_boxA rfl | exact T_box1 rfl rfl); intro _) | (apply RW_st; exact gk; exact st1))
      have ho : OwnT 33 m a2' (c.vals ++ [x]).length p2' (c.vals ++ [x]) h2' := ⟨rfl, _, hq2.append (RepL.single rfl), by rw [show (c.vals ++ [x]).length = c.vals.length + 1 by simp]; exact hw2⟩
      refine ⟨c.vals ++ [x], .slice a2' (c.vals.length + 1) p2', h2', [(k8, box 33 x.cs), (b7, box 33 x.cs), (b6, box 33 key.cs)], by exact sb, rfl, ?_, ⟨a2', p2', by simp, ho.cap, ho⟩, hok, by simp only [List.length_append, List.length_cons, List.length_nil]; omega⟩
      exact pm
    · have hnn : key.n = (key.n.toNat : Int) := by omega
      have hok : putA c key.n x = some { c with vals := c.vals.set key.n.toNat x } := by unfold putA; rw [if_neg (by omega), if_neg h]
      obtain ⟨bv, cur, rfl, rfl, hcl, hos⟩ := ho2.set key.n.toNat (by omega)
      have hcl3 : (key.n.toNat + 1) * 3 ≤ cur.length := hcl
      repeat (first | apply CW_seq | apply CW_region | apply RW_nil | apply thenQ_normal | apply thenQ_ret | apply thenQ_exit | apply blockQ_normal | apply blockQ_ret | apply blockQ_exit | (apply Xn; exact rfl) | apply CW_skip | apply CW_ret | apply CW_exit | apply CW_block | (apply CW_cf; exact rfl; exact bf) | (apply CW_ct; exact rfl; exact bt) | (apply RW_no; exact rfl; exact rfl; exact rfl; exact rfl; exact bn) | (apply RWu; exact rfl; exact rfl; exact rfl; exact rfl) | (apply RW_same; exact rfl; exact gk; exact op1) | (apply RW_box; exact rfl; exact gk; (first | exact T_alloc | exact T_boxA rfl | exact T_box1 rfl rfl); intro _) | (apply RW_st; exact gk; exact st1))
      refine RW_same rfl (by exact gk) (T_indexAddr rfl rfl (by omega)) ?_
      refine RW_st (by exact gk) (T_storeP (l := cur) rfl rfl rfl rfl (by show 0 + key.n.toNat * 3 + 3 ≤ cur.length; omega) (by simp only [Nat.zero_add]; repeat (first | exact Upd.head | apply Upd.tail | apply Upd.app))) ?_
      repeat (first | apply CW_seq | apply CW_region | apply RW_nil | apply thenQ_normal | apply thenQ_ret | apply thenQ_exit | apply blockQ_normal | apply blockQ_ret | apply blockQ_exit | (apply Xn; exact rfl) | apply CW_skip | apply CW_ret | apply CW_exit | apply CW_block | (apply CW_cf; exact rfl; exact bf) | (apply CW_ct; exact rfl; exact bt) | (apply RW_no; exact rfl; exact rfl; exact rfl; exact rfl; exact bn) | (apply RWu; exact rfl; exact rfl; exact rfl; exact rfl) | (apply RW_same; exact rfl; exact gk; exact op1) | (apply RW_box; exact rfl; exact gk; (first | exact T_alloc | exact T_boxA rfl | exact T_box1 rfl rfl); intro _) | (apply RW_st; exact gk; exact st1))
      refine ⟨c.vals.set key.n.toNat x, .slice (some ⟨bv, 0, none⟩) c.vals.length p2, [(bv, box 33 (setP cur (key.n.toNat * 3) x.cs))], [(b7, box 33 x.cs), (b6, box 33 key.cs)], by exact sb, rfl, ?_, ⟨some ⟨bv, 0, none⟩, p2, by simp, by simpa using hp2, ?_⟩, hok, ?_⟩
      · exact pm
      · have := hos m x x.cs (Mem.le.refl m) rfl
        rw [List.length_set]
        exact this
      · rw [List.length_set]
        exact hl2
  · rintro env' _ H' ⟨vals', vv, h2', L, hsub, rfl, hperm, ⟨a2', p2', rfl, hp2', ho2'⟩, hok, hlim⟩
    rw [hok]
    refine CW.keep _ hsub ?_
    refine CW.drop hperm ?_
    repeat (first | apply CW_seq | apply CW_region | apply RW_nil | apply thenQ_normal | apply thenQ_ret | apply thenQ_exit | apply blockQ_normal | apply blockQ_ret | apply blockQ_exit | (apply Xn; exact rfl) | apply CW_skip | apply CW_ret | apply CW_exit | apply CW_block | (apply CW_cf; exact rfl; exact bf) | (apply CW_ct; exact rfl; exact bt) | (apply RW_no; exact rfl; exact rfl; exact rfl; exact rfl; exact bn) | (apply RWu; exact rfl; exact rfl; exact rfl; exact rfl) | (apply RW_same; exact rfl; exact gk; exact op1) | (apply RW_box; exact rfl; exact gk; (first | exact T_alloc | exact T_boxA rfl | exact T_box1 rfl rfl); intro _) | (apply RW_st; exact gk; exact st1))
    refine RW.freeze ho1 (F := (b9, box 31 [.int .i64 c.kind, .int .i64 c.a, .int .i64 c.b, .slice a1 c.keys.length p1, .slice a2' vals'.length p2']) :: (b5, box 33 v.cs) :: (h2' ++ (hs ++ F))) (by exact pm) fun m1 hle1 hs1 => ?_
    refine RW.freeze (ho2'.mono hle1) (F := (b9, box 31 [.int .i64 c.kind, .int .i64 c.a, .int .i64 c.b, .slice a1 c.keys.length p1, .slice a2' vals'.length p2']) :: (b5, box 33 v.cs) :: (hs ++ F)) (by exact pm) fun m2 hle2 hs2 => ?_
    have g2 := (g.mono (hle1.trans hle2)).at_
    refine RW_call rfl (by exact gk) rfl (FnR.perm (H := hs ++ ((b9, box 31 _) :: (b5, box 33 v.cs) :: F)) (by exact pm) (heap_Store (c := { c with vals := vals' }) g2 hr ⟨_, _, rfl, hp1, hs1.mono hle2⟩ ⟨_, _, rfl, hp2', hs2⟩ ⟨hsm.1, hlim⟩)) ?_
    rintro _ _ _ _ ⟨hs', rfl, hat, rfl⟩
    repeat (first | apply CW_seq | apply CW_region | apply RW_nil | apply thenQ_normal | apply thenQ_ret | apply thenQ_exit | apply blockQ_normal | apply blockQ_ret | apply blockQ_exit | (apply Xn; exact rfl) | apply CW_skip | apply CW_ret | apply CW_exit | apply CW_block | (apply CW_cf; exact rfl; exact bf) | (apply CW_ct; exact rfl; exact bt) | (apply RW_no; exact rfl; exact rfl; exact rfl; exact rfl; exact bn) | (apply RWu; exact rfl; exact rfl; exact rfl; exact rfl) | (apply RW_same; exact rfl; exact gk; exact op1) | (apply RW_box; exact rfl; exact gk; (first | exact T_alloc | exact T_boxA rfl | exact T_box1 rfl rfl); intro _) | (apply RW_st; exact gk; exact st1))
    refine ret_rp [(b9, _), (b5, _)] (hs' ++ F) rfl (by exact rv) (by exact pm) ?_
    refine ⟨hs', rfl, ⟨hat, hset _ rfl rfl fun e => ?_⟩, rfl⟩
    exact absurd (hkind.symm.trans e) (by decide)
end Go.Proofs.YtbhpofplencjgaaDoor
