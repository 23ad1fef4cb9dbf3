/- What things have, by a name; a cell by a value. Conditions: none. -/
import Derived.Test.YtbhpofplencjgaaDoorP8
namespace Go.Proofs.YtbhpofplencjgaaDoor
open Go Go.WL
set_option linter.unusedSimpArgs false
set_option linter.unusedVariables false
attribute [local irreducible] OpP OpT RW CW AW FnR FnP BinR At thenQ blockQ bodyQ

abbrev sLength : S := [108, 101, 110, 103, 116, 104]
abbrev sPush : S := [112, 117, 115, 104]
abbrev sPop : S := [112, 111, 112]
abbrev sJoin : S := [106, 111, 105, 110]
abbrev sThen : S := [116, 104, 101, 110]
abbrev sResolve : S := [114, 101, 115, 111, 108, 118, 101]
abbrev sReject : S := [114, 101, 106, 101, 99, 116]
abbrev sNext : S := [110, 101, 120, 116]
abbrev sCharAt : S := [99, 104, 97, 114, 65, 116]
abbrev sIndexOf : S := [105, 110, 100, 101, 120, 79, 102]
abbrev sSlice : S := [115, 108, 105, 99, 101]

theorem own_one {m : Mem} {b : Nat} {x : S} : OwnT 9 m (some ⟨b, 0, none⟩) 1 1 [x] [(b, box 9 [str x])] := OwnT.box rfl (.cons (cs := [_]) rfl .nil)
theorem own_three {m : Mem} {b : Nat} {x y z : S} : OwnT 9 m (some ⟨b, 0, none⟩) 3 3 [x, y, z] [(b, box 9 [str x, str y, str z])] :=
  OwnT.box rfl (.cons (cs := [_]) rfl (.cons (cs := [_]) rfl (.cons (cs := [_]) rfl .nil)))

def hasV (cells : List Cel) (c : Cel) (name : S) : Val :=
  if c.kind = 1 then chainF cells name c.a.toNat c
  else if c.kind = 2 then (if name = sLength then vNum c.vals.length else ownV name [sPush, sPop, sJoin])
  else if c.kind = 5 then ownV name [sThen, sResolve, sReject]
  else if c.kind = 6 then ownV name [sNext]
  else vUndef

theorem props_has {h : Nat} {m : Mem} {hs F : Hp} {cells : List Cel} {c : Cel} {kv vv : Value} {name : S} (hh : HeapAt m h cells hs) (hw : WP cells) (hc : c.kind = 1 → Chn cells c) (hkv : SlV m kv c.keys) (hvv : SlV m vv c.vals) :
    FnR Tryd.prog 34 #[.pointer (some ⟨h, 0, none⟩), .agg #[.int .i64 c.kind, .int .i64 c.a, .int .i64 c.b, kv, vv], str name] m (hs ++ F) fun v m' H' =>
      v = .agg ⟨(hasV cells c name).cs⟩ ∧ H' = hs ++ F := by
  refine FnR.enter Tryd.func34 rfl Tryd.ntmps34 rfl fun s => ?_
  repeat (first | apply CW_seq | apply CW_region | apply RW_nil | apply thenQ_normal | apply thenQ_ret | apply thenQ_exit | apply blockQ_normal | apply blockQ_ret | apply blockQ_exit | (apply Xn; exact rfl) | apply CW_skip | apply CW_ret | apply CW_exit | apply CW_block | (apply CW_cf; exact rfl; exact bf) | (apply CW_ct; exact rfl; exact bt) | (apply RW_no; exact rfl; exact rfl; exact rfl; exact rfl; exact bn) | (apply RWu; exact rfl; exact rfl; exact rfl; exact rfl) | (apply RW_same; exact rfl; exact gk; exact op1) | (apply RW_box; exact rfl; exact gk; (first | exact T_alloc | exact T_boxA rfl | exact T_box1 rfl rfl); intro _) | (apply RW_st; exact gk; exact st1))
  rename_i b4 b6
  refine CW_cond_dec rfl (fun h => ?_) (fun h => ?_)
  · have hk : c.kind = 1 := h
    repeat (first | apply CW_seq | apply CW_region | apply RW_nil | apply thenQ_normal | apply thenQ_ret | apply thenQ_exit | apply blockQ_normal | apply blockQ_ret | apply blockQ_exit | (apply Xn; exact rfl) | apply CW_skip | apply CW_ret | apply CW_exit | apply CW_block | (apply CW_cf; exact rfl; exact bf) | (apply CW_ct; exact rfl; exact bt) | (apply RW_no; exact rfl; exact rfl; exact rfl; exact rfl; exact bn) | (apply RWu; exact rfl; exact rfl; exact rfl; exact rfl) | (apply RW_same; exact rfl; exact gk; exact op1) | (apply RW_box; exact rfl; exact gk; (first | exact T_alloc | exact T_boxA rfl | exact T_box1 rfl rfl); intro _) | (apply RW_st; exact gk; exact st1))
    refine RW_call rfl (by exact gk) rfl (FnR.perm (H := hs ++ ((b6, box 33 [.int .i64 0, .int .i64 0, .string ⟨#[]⟩]) :: (b4, box 31 [.int .i64 c.kind, .int .i64 c.a, .int .i64 c.b, kv, vv]) :: F)) (by exact pm) (props_chain hh hw (hc hk) hkv hvv)) ?_
    rintro _ m1 _ hle ⟨rfl, rfl⟩
    repeat (first | apply CW_seq | apply CW_region | apply RW_nil | apply thenQ_normal | apply thenQ_ret | apply thenQ_exit | apply blockQ_normal | apply blockQ_ret | apply blockQ_exit | (apply Xn; exact rfl) | apply CW_skip | apply CW_ret | apply CW_exit | apply CW_block | (apply CW_cf; exact rfl; exact bf) | (apply CW_ct; exact rfl; exact bt) | (apply RW_no; exact rfl; exact rfl; exact rfl; exact rfl; exact bn) | (apply RWu; exact rfl; exact rfl; exact rfl; exact rfl) | (apply RW_same; exact rfl; exact gk; exact op1) | (apply RW_box; exact rfl; exact gk; (first | exact T_alloc | exact T_boxA rfl | exact T_box1 rfl rfl); intro _) | (apply RW_st; exact gk; exact st1))
    first | refine rR (hs ++ F) (h := ?_) | refine rN (hs ++ F) (h := ?_)
    exact ⟨by simp only [tupleOf, hasV, if_pos hk], rfl⟩
  · have hk1 : ¬ c.kind = 1 := h
    repeat (first | apply CW_seq | apply CW_region | apply RW_nil | apply thenQ_normal | apply thenQ_ret | apply thenQ_exit | apply blockQ_normal | apply blockQ_ret | apply blockQ_exit | (apply Xn; exact rfl) | apply CW_skip | apply CW_ret | apply CW_exit | apply CW_block | (apply CW_cf; exact rfl; exact bf) | (apply CW_ct; exact rfl; exact bt) | (apply RW_no; exact rfl; exact rfl; exact rfl; exact rfl; exact bn) | (apply RWu; exact rfl; exact rfl; exact rfl; exact rfl) | (apply RW_same; exact rfl; exact gk; exact op1) | (apply RW_box; exact rfl; exact gk; (first | exact T_alloc | exact T_boxA rfl | exact T_box1 rfl rfl); intro _) | (apply RW_st; exact gk; exact st1))
    refine CW_cond_dec rfl (fun h => ?_) (fun h => ?_)
    · have hk : c.kind = 2 := h
      repeat (first | apply CW_seq | apply CW_region | apply RW_nil | apply thenQ_normal | apply thenQ_ret | apply thenQ_exit | apply blockQ_normal | apply blockQ_ret | apply blockQ_exit | (apply Xn; exact rfl) | apply CW_skip | apply CW_ret | apply CW_exit | apply CW_block | (apply CW_cf; exact rfl; exact bf) | (apply CW_ct; exact rfl; exact bt) | (apply RW_no; exact rfl; exact rfl; exact rfl; exact rfl; exact bn) | (apply RWu; exact rfl; exact rfl; exact rfl; exact rfl) | (apply RW_same; exact rfl; exact gk; exact op1) | (apply RW_box; exact rfl; exact gk; (first | exact T_alloc | exact T_boxA rfl | exact T_box1 rfl rfl); intro _) | (apply RW_st; exact gk; exact st1))
      refine CW_cond_dec rfl (fun h => ?_) (fun h => ?_)
      · obtain ⟨av, cv, rfl, hcv, hsv⟩ := hvv
        repeat (first | apply CW_seq | apply CW_region | apply RW_nil | apply thenQ_normal | apply thenQ_ret | apply thenQ_exit | apply blockQ_normal | apply blockQ_ret | apply blockQ_exit | (apply Xn; exact rfl) | apply CW_skip | apply CW_ret | apply CW_exit | apply CW_block | (apply CW_cf; exact rfl; exact bf) | (apply CW_ct; exact rfl; exact bt) | (apply RW_no; exact rfl; exact rfl; exact rfl; exact rfl; exact bn) | (apply RWu; exact rfl; exact rfl; exact rfl; exact rfl) | (apply RW_same; exact rfl; exact gk; exact op1) | (apply RW_box; exact rfl; exact gk; (first | exact T_alloc | exact T_boxA rfl | exact T_box1 rfl rfl); intro _) | (apply RW_st; exact gk; exact st1))
        refine RW_call rfl (by exact gk) rfl props_number ?_
        rintro _ _ _ _ ⟨rfl, rfl, rfl⟩
        repeat (first | apply CW_seq | apply CW_region | apply RW_nil | apply thenQ_normal | apply thenQ_ret | apply thenQ_exit | apply blockQ_normal | apply blockQ_ret | apply blockQ_exit | (apply Xn; exact rfl) | apply CW_skip | apply CW_ret | apply CW_exit | apply CW_block | (apply CW_cf; exact rfl; exact bf) | (apply CW_ct; exact rfl; exact bt) | (apply RW_no; exact rfl; exact rfl; exact rfl; exact rfl; exact bn) | (apply RWu; exact rfl; exact rfl; exact rfl; exact rfl) | (apply RW_same; exact rfl; exact gk; exact op1) | (apply RW_box; exact rfl; exact gk; (first | exact T_alloc | exact T_boxA rfl | exact T_box1 rfl rfl); intro _) | (apply RW_st; exact gk; exact st1))
        first | refine rR (hs ++ F) (h := ?_) | refine rN (hs ++ F) (h := ?_)
        exact ⟨by simp only [tupleOf, hasV, if_neg hk1, if_pos hk, if_pos h], rfl⟩
      · repeat (first | apply CW_seq | apply CW_region | apply RW_nil | apply thenQ_normal | apply thenQ_ret | apply thenQ_exit | apply blockQ_normal | apply blockQ_ret | apply blockQ_exit | (apply Xn; exact rfl) | apply CW_skip | apply CW_ret | apply CW_exit | apply CW_block | (apply CW_cf; exact rfl; exact bf) | (apply CW_ct; exact rfl; exact bt) | (apply RW_no; exact rfl; exact rfl; exact rfl; exact rfl; exact bn) | (apply RWu; exact rfl; exact rfl; exact rfl; exact rfl) | (apply RW_same; exact rfl; exact gk; exact op1) | (apply RW_box; exact rfl; exact gk; (first | exact T_alloc | exact T_boxA rfl | exact T_box1 rfl rfl); intro _) | (apply RW_st; exact gk; exact st1))
        refine RW_any rfl (by exact gk) (T_buildSlice (by rfl) (by decide) (by exact bd)) ?_
        rintro _ _ _ _ ⟨b2, rfl, rfl, rfl⟩
        refine RW.freeze (own_three (x := sPush) (y := sPop) (z := sJoin)) (.refl _) fun m1 hle hs1 => ?_
        refine RW_call rfl (by exact gk) rfl (props_own ⟨_, _, rfl, by decide, hs1⟩ (by decide)) ?_
        rintro _ _ _ _ ⟨rfl, rfl, rfl⟩
        repeat (first | apply CW_seq | apply CW_region | apply RW_nil | apply thenQ_normal | apply thenQ_ret | apply thenQ_exit | apply blockQ_normal | apply blockQ_ret | apply blockQ_exit | (apply Xn; exact rfl) | apply CW_skip | apply CW_ret | apply CW_exit | apply CW_block | (apply CW_cf; exact rfl; exact bf) | (apply CW_ct; exact rfl; exact bt) | (apply RW_no; exact rfl; exact rfl; exact rfl; exact rfl; exact bn) | (apply RWu; exact rfl; exact rfl; exact rfl; exact rfl) | (apply RW_same; exact rfl; exact gk; exact op1) | (apply RW_box; exact rfl; exact gk; (first | exact T_alloc | exact T_boxA rfl | exact T_box1 rfl rfl); intro _) | (apply RW_st; exact gk; exact st1))
        first | refine rR (hs ++ F) (h := ?_) | refine rN (hs ++ F) (h := ?_)
        exact ⟨by simp only [tupleOf, hasV, if_neg hk1, if_pos hk, if_neg h], rfl⟩
    · have hk2 : ¬ c.kind = 2 := h
      repeat (first | apply CW_seq | apply CW_region | apply RW_nil | apply thenQ_normal | apply thenQ_ret | apply thenQ_exit | apply blockQ_normal | apply blockQ_ret | apply blockQ_exit | (apply Xn; exact rfl) | apply CW_skip | apply CW_ret | apply CW_exit | apply CW_block | (apply CW_cf; exact rfl; exact bf) | (apply CW_ct; exact rfl; exact bt) | (apply RW_no; exact rfl; exact rfl; exact rfl; exact rfl; exact bn) | (apply RWu; exact rfl; exact rfl; exact rfl; exact rfl) | (apply RW_same; exact rfl; exact gk; exact op1) | (apply RW_box; exact rfl; exact gk; (first | exact T_alloc | exact T_boxA rfl | exact T_box1 rfl rfl); intro _) | (apply RW_st; exact gk; exact st1))
      refine CW_cond_dec rfl (fun h => ?_) (fun h => ?_)
      · have hk : c.kind = 5 := h
        repeat (first | apply CW_seq | apply CW_region | apply RW_nil | apply thenQ_normal | apply thenQ_ret | apply thenQ_exit | apply blockQ_normal | apply blockQ_ret | apply blockQ_exit | (apply Xn; exact rfl) | apply CW_skip | apply CW_ret | apply CW_exit | apply CW_block | (apply CW_cf; exact rfl; exact bf) | (apply CW_ct; exact rfl; exact bt) | (apply RW_no; exact rfl; exact rfl; exact rfl; exact rfl; exact bn) | (apply RWu; exact rfl; exact rfl; exact rfl; exact rfl) | (apply RW_same; exact rfl; exact gk; exact op1) | (apply RW_box; exact rfl; exact gk; (first | exact T_alloc | exact T_boxA rfl | exact T_box1 rfl rfl); intro _) | (apply RW_st; exact gk; exact st1))
        refine RW_any rfl (by exact gk) (T_buildSlice (by rfl) (by decide) (by exact bd)) ?_
        rintro _ _ _ _ ⟨b2, rfl, rfl, rfl⟩
        refine RW.freeze (own_three (x := sThen) (y := sResolve) (z := sReject)) (.refl _) fun m1 hle hs1 => ?_
        refine RW_call rfl (by exact gk) rfl (props_own ⟨_, _, rfl, by decide, hs1⟩ (by decide)) ?_
        rintro _ _ _ _ ⟨rfl, rfl, rfl⟩
        repeat (first | apply CW_seq | apply CW_region | apply RW_nil | apply thenQ_normal | apply thenQ_ret | apply thenQ_exit | apply blockQ_normal | apply blockQ_ret | apply blockQ_exit | (apply Xn; exact rfl) | apply CW_skip | apply CW_ret | apply CW_exit | apply CW_block | (apply CW_cf; exact rfl; exact bf) | (apply CW_ct; exact rfl; exact bt) | (apply RW_no; exact rfl; exact rfl; exact rfl; exact rfl; exact bn) | (apply RWu; exact rfl; exact rfl; exact rfl; exact rfl) | (apply RW_same; exact rfl; exact gk; exact op1) | (apply RW_box; exact rfl; exact gk; (first | exact T_alloc | exact T_boxA rfl | exact T_box1 rfl rfl); intro _) | (apply RW_st; exact gk; exact st1))
        first | refine rR (hs ++ F) (h := ?_) | refine rN (hs ++ F) (h := ?_)
        exact ⟨by simp only [tupleOf, hasV, if_neg hk1, if_neg hk2, if_pos hk], rfl⟩
      · have hk5 : ¬ c.kind = 5 := h
        repeat (first | apply CW_seq | apply CW_region | apply RW_nil | apply thenQ_normal | apply thenQ_ret | apply thenQ_exit | apply blockQ_normal | apply blockQ_ret | apply blockQ_exit | (apply Xn; exact rfl) | apply CW_skip | apply CW_ret | apply CW_exit | apply CW_block | (apply CW_cf; exact rfl; exact bf) | (apply CW_ct; exact rfl; exact bt) | (apply RW_no; exact rfl; exact rfl; exact rfl; exact rfl; exact bn) | (apply RWu; exact rfl; exact rfl; exact rfl; exact rfl) | (apply RW_same; exact rfl; exact gk; exact op1) | (apply RW_box; exact rfl; exact gk; (first | exact T_alloc | exact T_boxA rfl | exact T_box1 rfl rfl); intro _) | (apply RW_st; exact gk; exact st1))
        refine CW_cond_dec rfl (fun h => ?_) (fun h => ?_)
        · have hk : c.kind = 6 := h
          repeat (first | apply CW_seq | apply CW_region | apply RW_nil | apply thenQ_normal | apply thenQ_ret | apply thenQ_exit | apply blockQ_normal | apply blockQ_ret | apply blockQ_exit | (apply Xn; exact rfl) | apply CW_skip | apply CW_ret | apply CW_exit | apply CW_block | (apply CW_cf; exact rfl; exact bf) | (apply CW_ct; exact rfl; exact bt) | (apply RW_no; exact rfl; exact rfl; exact rfl; exact rfl; exact bn) | (apply RWu; exact rfl; exact rfl; exact rfl; exact rfl) | (apply RW_same; exact rfl; exact gk; exact op1) | (apply RW_box; exact rfl; exact gk; (first | exact T_alloc | exact T_boxA rfl | exact T_box1 rfl rfl); intro _) | (apply RW_st; exact gk; exact st1))
          refine RW_any rfl (by exact gk) (T_buildSlice (by rfl) (by decide) (by exact bd)) ?_
          rintro _ _ _ _ ⟨b2, rfl, rfl, rfl⟩
          refine RW.freeze (own_one (x := sNext)) (.refl _) fun m1 hle hs1 => ?_
          refine RW_call rfl (by exact gk) rfl (props_own ⟨_, _, rfl, by decide, hs1⟩ (by decide)) ?_
          rintro _ _ _ _ ⟨rfl, rfl, rfl⟩
          repeat (first | apply CW_seq | apply CW_region | apply RW_nil | apply thenQ_normal | apply thenQ_ret | apply thenQ_exit | apply blockQ_normal | apply blockQ_ret | apply blockQ_exit | (apply Xn; exact rfl) | apply CW_skip | apply CW_ret | apply CW_exit | apply CW_block | (apply CW_cf; exact rfl; exact bf) | (apply CW_ct; exact rfl; exact bt) | (apply RW_no; exact rfl; exact rfl; exact rfl; exact rfl; exact bn) | (apply RWu; exact rfl; exact rfl; exact rfl; exact rfl) | (apply RW_same; exact rfl; exact gk; exact op1) | (apply RW_box; exact rfl; exact gk; (first | exact T_alloc | exact T_boxA rfl | exact T_box1 rfl rfl); intro _) | (apply RW_st; exact gk; exact st1))
          first | refine rR (hs ++ F) (h := ?_) | refine rN (hs ++ F) (h := ?_)
          exact ⟨by simp only [tupleOf, hasV, if_neg hk1, if_neg hk2, if_neg hk5, if_pos hk], rfl⟩
        · repeat (first | apply CW_seq | apply CW_region | apply RW_nil | apply thenQ_normal | apply thenQ_ret | apply thenQ_exit | apply blockQ_normal | apply blockQ_ret | apply blockQ_exit | (apply Xn; exact rfl) | apply CW_skip | apply CW_ret | apply CW_exit | apply CW_block | (apply CW_cf; exact rfl; exact bf) | (apply CW_ct; exact rfl; exact bt) | (apply RW_no; exact rfl; exact rfl; exact rfl; exact rfl; exact bn) | (apply RWu; exact rfl; exact rfl; exact rfl; exact rfl) | (apply RW_same; exact rfl; exact gk; exact op1) | (apply RW_box; exact rfl; exact gk; (first | exact T_alloc | exact T_boxA rfl | exact T_box1 rfl rfl); intro _) | (apply RW_st; exact gk; exact st1))
          first | refine rR (hs ++ F) (h := ?_) | refine rN (hs ++ F) (h := ?_)
          exact ⟨by simp only [tupleOf, hasV, if_neg hk1, if_neg hk2, if_neg hk5, if_neg h]; rfl, rfl⟩

theorem props_nothing {v : Val} {m : Mem} {H : Hp} : FnR Tryd.prog 29 #[.agg ⟨v.cs⟩] m H fun v' m' H' => v' = .bool (decide (v.k = 0 ∨ v.k = 1 ∨ v.k = 7)) ∧ m = m' ∧ H = H' := by
  refine FnR.enter Tryd.func29 rfl Tryd.ntmps29 rfl fun s => ?_
  repeat (first | apply CW_seq | apply CW_region | apply RW_nil | apply thenQ_normal | apply thenQ_ret | apply thenQ_exit | apply blockQ_normal | apply blockQ_ret | apply blockQ_exit | (apply Xn; exact rfl) | apply CW_skip | apply CW_ret | apply CW_exit | apply CW_block | (apply CW_cf; exact rfl; exact bf) | (apply CW_ct; exact rfl; exact bt) | (apply RW_no; exact rfl; exact rfl; exact rfl; exact rfl; exact bn) | (apply RWu; exact rfl; exact rfl; exact rfl; exact rfl) | (apply RW_same; exact rfl; exact gk; exact op1) | (apply RW_box; exact rfl; exact gk; (first | exact T_alloc | exact T_boxA rfl | exact T_box1 rfl rfl); intro _) | (apply RW_st; exact gk; exact st1))
  refine RW_partd 6 rfl (fun h => ?_) (fun h => ?_)
  · have h0 := h
    repeat (first | apply CW_seq | apply CW_region | apply RW_nil | apply thenQ_normal | apply thenQ_ret | apply thenQ_exit | apply blockQ_normal | apply blockQ_ret | apply blockQ_exit | (apply Xn; exact rfl) | apply CW_skip | apply CW_ret | apply CW_exit | apply CW_block | (apply CW_cf; exact rfl; exact bf) | (apply CW_ct; exact rfl; exact bt) | (apply RW_no; exact rfl; exact rfl; exact rfl; exact rfl; exact bn) | (apply RWu; exact rfl; exact rfl; exact rfl; exact rfl) | (apply RW_same; exact rfl; exact gk; exact op1) | (apply RW_box; exact rfl; exact gk; (first | exact T_alloc | exact T_boxA rfl | exact T_box1 rfl rfl); intro _) | (apply RW_st; exact gk; exact st1))
    first | refine rR (H) (h := ?_) | refine rN (H) (h := ?_)
    exact ⟨by simp [tupleOf, h0], rfl, rfl⟩
  · have h0 := h
    repeat (first | apply CW_seq | apply CW_region | apply RW_nil | apply thenQ_normal | apply thenQ_ret | apply thenQ_exit | apply blockQ_normal | apply blockQ_ret | apply blockQ_exit | (apply Xn; exact rfl) | apply CW_skip | apply CW_ret | apply CW_exit | apply CW_block | (apply CW_cf; exact rfl; exact bf) | (apply CW_ct; exact rfl; exact bt) | (apply RW_no; exact rfl; exact rfl; exact rfl; exact rfl; exact bn) | (apply RWu; exact rfl; exact rfl; exact rfl; exact rfl) | (apply RW_same; exact rfl; exact gk; exact op1) | (apply RW_box; exact rfl; exact gk; (first | exact T_alloc | exact T_boxA rfl | exact T_box1 rfl rfl); intro _) | (apply RW_st; exact gk; exact st1))
    refine RW_partd 11 rfl (fun h => ?_) (fun h => ?_)
    · repeat (first | apply CW_seq | apply CW_region | apply RW_nil | apply thenQ_normal | apply thenQ_ret | apply thenQ_exit | apply blockQ_normal | apply blockQ_ret | apply blockQ_exit | (apply Xn; exact rfl) | apply CW_skip | apply CW_ret | apply CW_exit | apply CW_block | (apply CW_cf; exact rfl; exact bf) | (apply CW_ct; exact rfl; exact bt) | (apply RW_no; exact rfl; exact rfl; exact rfl; exact rfl; exact bn) | (apply RWu; exact rfl; exact rfl; exact rfl; exact rfl) | (apply RW_same; exact rfl; exact gk; exact op1) | (apply RW_box; exact rfl; exact gk; (first | exact T_alloc | exact T_boxA rfl | exact T_box1 rfl rfl); intro _) | (apply RW_st; exact gk; exact st1))
      first | refine rR (H) (h := ?_) | refine rN (H) (h := ?_)
      exact ⟨by simp [tupleOf, h], rfl, rfl⟩
    · repeat (first | apply CW_seq | apply CW_region | apply RW_nil | apply thenQ_normal | apply thenQ_ret | apply thenQ_exit | apply blockQ_normal | apply blockQ_ret | apply blockQ_exit | (apply Xn; exact rfl) | apply CW_skip | apply CW_ret | apply CW_exit | apply CW_block | (apply CW_cf; exact rfl; exact bf) | (apply CW_ct; exact rfl; exact bt) | (apply RW_no; exact rfl; exact rfl; exact rfl; exact rfl; exact bn) | (apply RWu; exact rfl; exact rfl; exact rfl; exact rfl) | (apply RW_same; exact rfl; exact gk; exact op1) | (apply RW_box; exact rfl; exact gk; (first | exact T_alloc | exact T_boxA rfl | exact T_box1 rfl rfl); intro _) | (apply RW_st; exact gk; exact st1))
      first | refine rR (H) (h := ?_) | refine rN (H) (h := ?_)
      exact ⟨by simp [tupleOf, h0, h], rfl, rfl⟩

/-- what a value has by a name, and the error's number -/
def getV (cells : List Cel) (v : Val) (name : S) : Val × Int :=
  if v.k = 0 ∨ v.k = 1 ∨ v.k = 7 then (vUndef, 8)
  else if v.k = 4 then (if name = sLength then vNum v.s.length else ownV name [sCharAt, sIndexOf, sSlice], 0)
  else if v.k ≠ 5 then (vUndef, 0)
  else if h : 1 ≤ v.n ∧ v.n ≤ cells.length then (hasV cells (cells[(v.n - 1).toNat]'(by omega)) name, 0)
  else (vUndef, 2)

/-- a heap as the laws make it -/
structure Good (m : Mem) (h : Nat) (cells : List Cel) (hs : Hp) : Prop where
  at_ : HeapAt m h cells hs
  wp : WP cells

theorem Good.n {m h cells hs} (g : Good m h cells hs) : cells.length ≤ 4096 := by obtain ⟨_, _, _, hb⟩ := g.at_; exact hb.n
theorem Good.small {m h cells hs} (g : Good m h cells hs) : ∀ x ∈ cells, Small x := by obtain ⟨_, _, _, hb⟩ := g.at_; exact hb.small
theorem Good.mono {m m' h cells hs} (hle : Mem.le m m') (g : Good m h cells hs) : Good m' h cells hs := ⟨g.at_.mono hle, g.wp⟩
theorem Good.chn {m h cells hs} (g : Good m h cells hs) (i : Nat) (hi : i < cells.length) (hk : cells[i].kind = 1) : Chn cells cells[i] := by
  obtain ⟨h1, h2, h3, h4⟩ := g.wp i hi hk
  exact ⟨h1, by omega, h3, (g.small _ (List.getElem_mem hi)).1, h4⟩

/-- numbers that fit -/
def I64 (n : Int) : Prop := -9223372036854775808 ≤ n ∧ n ≤ 9223372036854775807

theorem props_Get {h : Nat} {m : Mem} {hs F : Hp} {cells : List Cel} {v : Val} {name : S} (g : Good m h cells hs) (hn : -9223372036854775808 < v.n ∧ v.n ≤ 9223372036854775807) :
    FnR Tryd.prog 11 #[.pointer (some ⟨h, 0, none⟩), .agg ⟨v.cs⟩, str name] m (hs ++ F) fun v' m' H' =>
      v' = .tuple #[.agg ⟨(getV cells v name).1.cs⟩, .int .i64 (getV cells v name).2] ∧ H' = hs ++ F := by
  refine FnR.enter Tryd.func11 rfl Tryd.ntmps11 rfl fun s => ?_
  repeat (first | apply CW_seq | apply CW_region | apply RW_nil | apply thenQ_normal | apply thenQ_ret | apply thenQ_exit | apply blockQ_normal | apply blockQ_ret | apply blockQ_exit | (apply Xn; exact rfl) | apply CW_skip | apply CW_ret | apply CW_exit | apply CW_block | (apply CW_cf; exact rfl; exact bf) | (apply CW_ct; exact rfl; exact bt) | (apply RW_no; exact rfl; exact rfl; exact rfl; exact rfl; exact bn) | (apply RWu; exact rfl; exact rfl; exact rfl; exact rfl) | (apply RW_same; exact rfl; exact gk; exact op1) | (apply RW_box; exact rfl; exact gk; (first | exact T_alloc | exact T_boxA rfl | exact T_box1 rfl rfl); intro _) | (apply RW_st; exact gk; exact st1))
  rename_i b1 b2
  refine RW_call rfl (by exact gk) rfl props_nothing ?_
  rintro _ _ _ _ ⟨rfl, rfl, rfl⟩
  repeat (first | apply CW_seq | apply CW_region | apply RW_nil | apply thenQ_normal | apply thenQ_ret | apply thenQ_exit | apply blockQ_normal | apply blockQ_ret | apply blockQ_exit | (apply Xn; exact rfl) | apply CW_skip | apply CW_ret | apply CW_exit | apply CW_block | (apply CW_cf; exact rfl; exact bf) | (apply CW_ct; exact rfl; exact bt) | (apply RW_no; exact rfl; exact rfl; exact rfl; exact rfl; exact bn) | (apply RWu; exact rfl; exact rfl; exact rfl; exact rfl) | (apply RW_same; exact rfl; exact gk; exact op1) | (apply RW_box; exact rfl; exact gk; (first | exact T_alloc | exact T_boxA rfl | exact T_box1 rfl rfl); intro _) | (apply RW_st; exact gk; exact st1))
  refine CW_cond_dec rfl (fun h => ?_) (fun h => ?_)
  · repeat (first | apply CW_seq | apply CW_region | apply RW_nil | apply thenQ_normal | apply thenQ_ret | apply thenQ_exit | apply blockQ_normal | apply blockQ_ret | apply blockQ_exit | (apply Xn; exact rfl) | apply CW_skip | apply CW_ret | apply CW_exit | apply CW_block | (apply CW_cf; exact rfl; exact bf) | (apply CW_ct; exact rfl; exact bt) | (apply RW_no; exact rfl; exact rfl; exact rfl; exact rfl; exact bn) | (apply RWu; exact rfl; exact rfl; exact rfl; exact rfl) | (apply RW_same; exact rfl; exact gk; exact op1) | (apply RW_box; exact rfl; exact gk; (first | exact T_alloc | exact T_boxA rfl | exact T_box1 rfl rfl); intro _) | (apply RW_st; exact gk; exact st1))
    first | refine rR (hs ++ F) (h := ?_) | refine rN (hs ++ F) (h := ?_)
    exact ⟨by simp only [tupleOf, getV, if_pos h]; rfl, rfl⟩
  · have hno := h
    repeat (first | apply CW_seq | apply CW_region | apply RW_nil | apply thenQ_normal | apply thenQ_ret | apply thenQ_exit | apply blockQ_normal | apply blockQ_ret | apply blockQ_exit | (apply Xn; exact rfl) | apply CW_skip | apply CW_ret | apply CW_exit | apply CW_block | (apply CW_cf; exact rfl; exact bf) | (apply CW_ct; exact rfl; exact bt) | (apply RW_no; exact rfl; exact rfl; exact rfl; exact rfl; exact bn) | (apply RWu; exact rfl; exact rfl; exact rfl; exact rfl) | (apply RW_same; exact rfl; exact gk; exact op1) | (apply RW_box; exact rfl; exact gk; (first | exact T_alloc | exact T_boxA rfl | exact T_box1 rfl rfl); intro _) | (apply RW_st; exact gk; exact st1))
    by_cases hk4 : v.k = 4
    · refine RW_partd 22 rfl (fun h => ?_) (fun h => ?_)
      · repeat (first | apply CW_seq | apply CW_region | apply RW_nil | apply thenQ_normal | apply thenQ_ret | apply thenQ_exit | apply blockQ_normal | apply blockQ_ret | apply blockQ_exit | (apply Xn; exact rfl) | apply CW_skip | apply CW_ret | apply CW_exit | apply CW_block | (apply CW_cf; exact rfl; exact bf) | (apply CW_ct; exact rfl; exact bt) | (apply RW_no; exact rfl; exact rfl; exact rfl; exact rfl; exact bn) | (apply RWu; exact rfl; exact rfl; exact rfl; exact rfl) | (apply RW_same; exact rfl; exact gk; exact op1) | (apply RW_box; exact rfl; exact gk; (first | exact T_alloc | exact T_boxA rfl | exact T_box1 rfl rfl); intro _) | (apply RW_st; exact gk; exact st1))
        refine CW_cond_dec rfl (fun h => ?_) (fun h => ?_)
        · repeat (first | apply CW_seq | apply CW_region | apply RW_nil | apply thenQ_normal | apply thenQ_ret | apply thenQ_exit | apply blockQ_normal | apply blockQ_ret | apply blockQ_exit | (apply Xn; exact rfl) | apply CW_skip | apply CW_ret | apply CW_exit | apply CW_block | (apply CW_cf; exact rfl; exact bf) | (apply CW_ct; exact rfl; exact bt) | (apply RW_no; exact rfl; exact rfl; exact rfl; exact rfl; exact bn) | (apply RWu; exact rfl; exact rfl; exact rfl; exact rfl) | (apply RW_same; exact rfl; exact gk; exact op1) | (apply RW_box; exact rfl; exact gk; (first | exact T_alloc | exact T_boxA rfl | exact T_box1 rfl rfl); intro _) | (apply RW_st; exact gk; exact st1))
          refine RW_call rfl (by exact gk) rfl props_number ?_
          rintro _ _ _ _ ⟨rfl, rfl, rfl⟩
          repeat (first | apply CW_seq | apply CW_region | apply RW_nil | apply thenQ_normal | apply thenQ_ret | apply thenQ_exit | apply blockQ_normal | apply blockQ_ret | apply blockQ_exit | (apply Xn; exact rfl) | apply CW_skip | apply CW_ret | apply CW_exit | apply CW_block | (apply CW_cf; exact rfl; exact bf) | (apply CW_ct; exact rfl; exact bt) | (apply RW_no; exact rfl; exact rfl; exact rfl; exact rfl; exact bn) | (apply RWu; exact rfl; exact rfl; exact rfl; exact rfl) | (apply RW_same; exact rfl; exact gk; exact op1) | (apply RW_box; exact rfl; exact gk; (first | exact T_alloc | exact T_boxA rfl | exact T_box1 rfl rfl); intro _) | (apply RW_st; exact gk; exact st1))
          first | refine rR (hs ++ F) (h := ?_) | refine rN (hs ++ F) (h := ?_)
          exact ⟨by simp only [tupleOf, getV, if_neg hno, if_pos hk4, if_pos h], rfl⟩
        · have hnl := h
          repeat (first | apply CW_seq | apply CW_region | apply RW_nil | apply thenQ_normal | apply thenQ_ret | apply thenQ_exit | apply blockQ_normal | apply blockQ_ret | apply blockQ_exit | (apply Xn; exact rfl) | apply CW_skip | apply CW_ret | apply CW_exit | apply CW_block | (apply CW_cf; exact rfl; exact bf) | (apply CW_ct; exact rfl; exact bt) | (apply RW_no; exact rfl; exact rfl; exact rfl; exact rfl; exact bn) | (apply RWu; exact rfl; exact rfl; exact rfl; exact rfl) | (apply RW_same; exact rfl; exact gk; exact op1) | (apply RW_box; exact rfl; exact gk; (first | exact T_alloc | exact T_boxA rfl | exact T_box1 rfl rfl); intro _) | (apply RW_st; exact gk; exact st1))
          refine CW_cond_dec rfl (fun h => ?_) (fun h => ?_)
          · repeat (first | apply CW_seq | apply CW_region | apply RW_nil | apply thenQ_normal | apply thenQ_ret | apply thenQ_exit | apply blockQ_normal | apply blockQ_ret | apply blockQ_exit | (apply Xn; exact rfl) | apply CW_skip | apply CW_ret | apply CW_exit | apply CW_block | (apply CW_cf; exact rfl; exact bf) | (apply CW_ct; exact rfl; exact bt) | (apply RW_no; exact rfl; exact rfl; exact rfl; exact rfl; exact bn) | (apply RWu; exact rfl; exact rfl; exact rfl; exact rfl) | (apply RW_same; exact rfl; exact gk; exact op1) | (apply RW_box; exact rfl; exact gk; (first | exact T_alloc | exact T_boxA rfl | exact T_box1 rfl rfl); intro _) | (apply RW_st; exact gk; exact st1))
            refine RW_any rfl (by exact gk) (T_buildSlice (by rfl) (by decide) (by exact bd)) ?_
            rintro _ _ _ _ ⟨b3, rfl, rfl, rfl⟩
            refine RW.freeze (own_three (x := sCharAt) (y := sIndexOf) (z := sSlice)) (.refl _) fun m1 hle hs1 => ?_
            refine RW_call rfl (by exact gk) rfl (props_own ⟨_, _, rfl, by decide, hs1⟩ (by decide)) ?_
            rintro _ _ _ _ ⟨rfl, rfl, rfl⟩
            repeat (first | apply CW_seq | apply CW_region | apply RW_nil | apply thenQ_normal | apply thenQ_ret | apply thenQ_exit | apply blockQ_normal | apply blockQ_ret | apply blockQ_exit | (apply Xn; exact rfl) | apply CW_skip | apply CW_ret | apply CW_exit | apply CW_block | (apply CW_cf; exact rfl; exact bf) | (apply CW_ct; exact rfl; exact bt) | (apply RW_no; exact rfl; exact rfl; exact rfl; exact rfl; exact bn) | (apply RWu; exact rfl; exact rfl; exact rfl; exact rfl) | (apply RW_same; exact rfl; exact gk; exact op1) | (apply RW_box; exact rfl; exact gk; (first | exact T_alloc | exact T_boxA rfl | exact T_box1 rfl rfl); intro _) | (apply RW_st; exact gk; exact st1))
            first | refine rR (hs ++ F) (h := ?_) | refine rN (hs ++ F) (h := ?_)
            exact ⟨by simp only [tupleOf, getV, if_neg hno, if_pos hk4, if_neg hnl], rfl⟩
          · exact absurd hk4 h
      · exact absurd hk4 h
    · refine RW_partd 22 rfl (fun h => ?_) (fun h => ?_)
      · exact absurd h hk4
      · repeat (first | apply CW_seq | apply CW_region | apply RW_nil | apply thenQ_normal | apply thenQ_ret | apply thenQ_exit | apply blockQ_normal | apply blockQ_ret | apply blockQ_exit | (apply Xn; exact rfl) | apply CW_skip | apply CW_ret | apply CW_exit | apply CW_block | (apply CW_cf; exact rfl; exact bf) | (apply CW_ct; exact rfl; exact bt) | (apply RW_no; exact rfl; exact rfl; exact rfl; exact rfl; exact bn) | (apply RWu; exact rfl; exact rfl; exact rfl; exact rfl) | (apply RW_same; exact rfl; exact gk; exact op1) | (apply RW_box; exact rfl; exact gk; (first | exact T_alloc | exact T_boxA rfl | exact T_box1 rfl rfl); intro _) | (apply RW_st; exact gk; exact st1))
        refine CW_cond_dec rfl (fun h => ?_) (fun h => ?_)
        · exact absurd h hk4
        repeat (first | apply CW_seq | apply CW_region | apply RW_nil | apply thenQ_normal | apply thenQ_ret | apply thenQ_exit | apply blockQ_normal | apply blockQ_ret | apply blockQ_exit | (apply Xn; exact rfl) | apply CW_skip | apply CW_ret | apply CW_exit | apply CW_block | (apply CW_cf; exact rfl; exact bf) | (apply CW_ct; exact rfl; exact bt) | (apply RW_no; exact rfl; exact rfl; exact rfl; exact rfl; exact bn) | (apply RWu; exact rfl; exact rfl; exact rfl; exact rfl) | (apply RW_same; exact rfl; exact gk; exact op1) | (apply RW_box; exact rfl; exact gk; (first | exact T_alloc | exact T_boxA rfl | exact T_box1 rfl rfl); intro _) | (apply RW_st; exact gk; exact st1))
        refine CW_cond_ndec rfl (fun h => ?_) (fun h => ?_)
        · repeat (first | apply CW_seq | apply CW_region | apply RW_nil | apply thenQ_normal | apply thenQ_ret | apply thenQ_exit | apply blockQ_normal | apply blockQ_ret | apply blockQ_exit | (apply Xn; exact rfl) | apply CW_skip | apply CW_ret | apply CW_exit | apply CW_block | (apply CW_cf; exact rfl; exact bf) | (apply CW_ct; exact rfl; exact bt) | (apply RW_no; exact rfl; exact rfl; exact rfl; exact rfl; exact bn) | (apply RWu; exact rfl; exact rfl; exact rfl; exact rfl) | (apply RW_same; exact rfl; exact gk; exact op1) | (apply RW_box; exact rfl; exact gk; (first | exact T_alloc | exact T_boxA rfl | exact T_box1 rfl rfl); intro _) | (apply RW_st; exact gk; exact st1))
          first | refine rR (hs ++ F) (h := ?_) | refine rN (hs ++ F) (h := ?_)
          exact ⟨by simp only [tupleOf, getV, if_neg hno, if_neg hk4, if_pos h]; rfl, rfl⟩
        · have hk5 : ¬ v.k ≠ 5 := by simpa using h
          repeat (first | apply CW_seq | apply CW_region | apply RW_nil | apply thenQ_normal | apply thenQ_ret | apply thenQ_exit | apply blockQ_normal | apply blockQ_ret | apply blockQ_exit | (apply Xn; exact rfl) | apply CW_skip | apply CW_ret | apply CW_exit | apply CW_block | (apply CW_cf; exact rfl; exact bf) | (apply CW_ct; exact rfl; exact bt) | (apply RW_no; exact rfl; exact rfl; exact rfl; exact rfl; exact bn) | (apply RWu; exact rfl; exact rfl; exact rfl; exact rfl) | (apply RW_same; exact rfl; exact gk; exact op1) | (apply RW_box; exact rfl; exact gk; (first | exact T_alloc | exact T_boxA rfl | exact T_box1 rfl rfl); intro _) | (apply RW_st; exact gk; exact st1))
          by_cases hr : 1 ≤ v.n ∧ v.n ≤ cells.length
          · refine RW_call rfl (by exact gk) rfl (FnR.perm (H := hs ++ ((b2, box 33 vUndef.cs) :: (b1, box 33 v.cs) :: F)) (by exact pm) (heap_Load g.at_ hr)) ?_
            rintro _ _ _ _ ⟨kv', vv', h1, h2, rfl, ⟨a1, p1, rfl, hp1, ho1⟩, ⟨a2, p2, rfl, hp2, ho2⟩, rfl, rfl⟩
            refine RW.freeze ho2 (.refl _) fun m2 hle1 hs2 => ?_
            refine RW.freeze (ho1.mono hle1) (.refl _) fun m3 hle2 hs1 => ?_
            repeat (first | apply CW_seq | apply CW_region | apply RW_nil | apply thenQ_normal | apply thenQ_ret | apply thenQ_exit | apply blockQ_normal | apply blockQ_ret | apply blockQ_exit | (apply Xn; exact rfl) | apply CW_skip | apply CW_ret | apply CW_exit | apply CW_block | (apply CW_cf; exact rfl; exact bf) | (apply CW_ct; exact rfl; exact bt) | (apply RW_no; exact rfl; exact rfl; exact rfl; exact rfl; exact bn) | (apply RWu; exact rfl; exact rfl; exact rfl; exact rfl) | (apply RW_same; exact rfl; exact gk; exact op1) | (apply RW_box; exact rfl; exact gk; (first | exact T_alloc | exact T_boxA rfl | exact T_box1 rfl rfl); intro _) | (apply RW_st; exact gk; exact st1))
            rename_i b8
            have hidx : (v.n - 1).toNat < cells.length := by omega
            refine RW_call rfl (by exact gk) rfl (FnR.perm (H := hs ++ ((b8, box 31 _) :: (b2, box 33 vUndef.cs) :: (b1, box 33 v.cs) :: F)) (by exact pm) (props_has (g.at_.mono (hle1.trans hle2)) g.wp (fun hk => g.chn _ hidx hk) ⟨_, _, rfl, hp1, hs1⟩ ⟨_, _, rfl, hp2, hs2.mono hle2⟩)) ?_
            rintro _ m4 _ hle3 ⟨rfl, rfl⟩
            repeat (first | apply CW_seq | apply CW_region | apply RW_nil | apply thenQ_normal | apply thenQ_ret | apply thenQ_exit | apply blockQ_normal | apply blockQ_ret | apply blockQ_exit | (apply Xn; exact rfl) | apply CW_skip | apply CW_ret | apply CW_exit | apply CW_block | (apply CW_cf; exact rfl; exact bf) | (apply CW_ct; exact rfl; exact bt) | (apply RW_no; exact rfl; exact rfl; exact rfl; exact rfl; exact bn) | (apply RWu; exact rfl; exact rfl; exact rfl; exact rfl) | (apply RW_same; exact rfl; exact gk; exact op1) | (apply RW_box; exact rfl; exact gk; (first | exact T_alloc | exact T_boxA rfl | exact T_box1 rfl rfl); intro _) | (apply RW_st; exact gk; exact st1))
            first | refine rR (hs ++ F) (h := ?_) | refine rN (hs ++ F) (h := ?_)
            exact ⟨by simp only [tupleOf, getV, if_neg hno, if_neg hk4, if_neg hk5, dif_pos hr], rfl⟩
          · refine RW_call rfl (by exact gk) rfl (FnR.perm (H := hs ++ ((b2, box 33 vUndef.cs) :: (b1, box 33 v.cs) :: F)) (by exact pm) (heap_Load_no g.at_ hr hn.1 hn.2)) ?_
            rintro _ _ _ _ ⟨rfl, rfl, rfl⟩
            repeat (first | apply CW_seq | apply CW_region | apply RW_nil | apply thenQ_normal | apply thenQ_ret | apply thenQ_exit | apply blockQ_normal | apply blockQ_ret | apply blockQ_exit | (apply Xn; exact rfl) | apply CW_skip | apply CW_ret | apply CW_exit | apply CW_block | (apply CW_cf; exact rfl; exact bf) | (apply CW_ct; exact rfl; exact bt) | (apply RW_no; exact rfl; exact rfl; exact rfl; exact rfl; exact bn) | (apply RWu; exact rfl; exact rfl; exact rfl; exact rfl) | (apply RW_same; exact rfl; exact gk; exact op1) | (apply RW_box; exact rfl; exact gk; (first | exact T_alloc | exact T_boxA rfl | exact T_box1 rfl rfl); intro _) | (apply RW_st; exact gk; exact st1))
            first | refine rR (hs ++ F) (h := ?_) | refine rN (hs ++ F) (h := ?_)
            exact ⟨by simp only [tupleOf, getV, if_neg hno, if_neg hk4, if_neg hk5, dif_neg hr]; rfl, rfl⟩
end Go.Proofs.YtbhpofplencjgaaDoor
