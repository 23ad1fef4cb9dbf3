/- The reference's Set. Conditions: none. -/
import Derived.Test.YtbhpofplencjgaaDoorB5
import Derived.Test.YtbhpofplencjgaaDoorL9
namespace Go.Proofs.YtbhpofplencjgaaDoor
open Go Go.WL
set_option linter.unusedSimpArgs false
set_option linter.unusedVariables false
attribute [local irreducible] OpP OpT RW CW AW FnR FnP BinR At thenQ blockQ bodyQ

theorem r13_Set {m : Mem} {H : Hp} {lv : Value} {cells : List Cel} {v x : Val} {name : S} (hl : SlV m lv cells) (hsm : ∀ c ∈ cells, Small c) (hw : WP cells) (hn : cells.length ≤ 4096) (hv : v.k = 5 → 1 ≤ v.n ∧ v.n ≤ cells.length) :
    FnR Tryd.prog 17 #[lv, .agg ⟨v.cs⟩, str name, .agg ⟨x.cs⟩] m H fun v' m' H' => ∃ lv', v' = .agg #[lv', .int .i64 (setV cells v name x).2] ∧ SlV m' lv' (setV cells v name x).1 ∧ Mem.le m m' ∧ H' = H := by
  have hl0 := hl
  obtain ⟨la, lc, rfl, hlc, hls⟩ := hl0
  refine FnR.enter Tryd.func17 rfl Tryd.ntmps17 rfl fun s => ?_
  repeat (first | apply CW_seq | apply CW_region | apply RW_nil | apply thenQ_normal | apply thenQ_ret | apply thenQ_exit | apply blockQ_normal | apply blockQ_ret | apply blockQ_exit | (apply Xn; exact rfl) | apply CW_skip | apply CW_ret | apply CW_exit | apply CW_block | (apply CW_cf; exact rfl; exact bf) | (apply CW_ct; exact rfl; exact bt) | (apply RW_no; exact rfl; exact rfl; exact rfl; exact rfl; exact bn) | (apply RWu; exact rfl; exact rfl; exact rfl; exact rfl) | (apply RW_same; exact rfl; exact gk; exact op1) | (apply RW_box; exact rfl; exact gk; (first | exact T_alloc | exact T_boxA rfl | exact T_box1 rfl rfl); intro _) | (apply RW_st; exact gk; exact st1))
  rename_i b5 b7 b8
  refine RW_partn 15 rfl (fun h => ?_) (fun h => ?_)
  · have e : setV cells v name x = (cells, 8) := by unfold setV; rw [dif_neg (fun q => h q.1)]
    rw [e]
    repeat (first | apply CW_seq | apply CW_region | apply RW_nil | apply thenQ_normal | apply thenQ_ret | apply thenQ_exit | apply blockQ_normal | apply blockQ_ret | apply blockQ_exit | (apply Xn; exact rfl) | apply CW_skip | apply CW_ret | apply CW_exit | apply CW_block | (apply CW_cf; exact rfl; exact bf) | (apply CW_ct; exact rfl; exact bt) | (apply RW_no; exact rfl; exact rfl; exact rfl; exact rfl; exact bn) | (apply RWu; exact rfl; exact rfl; exact rfl; exact rfl) | (apply RW_same; exact rfl; exact gk; exact op1) | (apply RW_box; exact rfl; exact gk; (first | exact T_alloc | exact T_boxA rfl | exact T_box1 rfl rfl); intro _) | (apply RW_st; exact gk; exact st1))
    first | refine rR (H) (h := ?_) | refine rN (H) (h := ?_)
    exact ⟨_, rfl, ⟨la, lc, rfl, hlc, hls⟩, Mem.le.refl _, rfl⟩
  have n5 : v.k = 5 := by simpa using h
  have hr := hv n5
  have hidx : (v.n - 1).toNat < cells.length := by omega
  have hsv : setV cells v name x = ((if cells[(v.n - 1).toNat].kind = 1 then
      match find cells[(v.n - 1).toNat].keys name with
      | some i => (cells.set (v.n - 1).toNat { cells[(v.n - 1).toNat] with vals := cells[(v.n - 1).toNat].vals.set i x }, 0)
      | none => if 1024 ≤ cells[(v.n - 1).toNat].keys.length then (cells, 7) else (cells.set (v.n - 1).toNat { cells[(v.n - 1).toNat] with keys := cells[(v.n - 1).toNat].keys ++ [name], vals := cells[(v.n - 1).toNat].vals ++ [x] }, 0)
    else (cells, 8)) : List Cel × Int) := by
    simp only [setV, dif_pos (show v.k = 5 ∧ 1 ≤ v.n ∧ v.n ≤ cells.length from ⟨n5, hr⟩)]
    rfl
  have he := List.getElem?_eq_getElem hidx
  have hc := hsm _ (List.getElem_mem hidx)
  have hwc := hw _ hidx
  generalize cells[(v.n - 1).toNat] = c at *
  repeat (first | apply CW_seq | apply CW_region | apply RW_nil | apply thenQ_normal | apply thenQ_ret | apply thenQ_exit | apply blockQ_normal | apply blockQ_ret | apply blockQ_exit | (apply Xn; exact rfl) | apply CW_skip | apply CW_ret | apply CW_exit | apply CW_block | (apply CW_cf; exact rfl; exact bf) | (apply CW_ct; exact rfl; exact bt) | (apply RW_no; exact rfl; exact rfl; exact rfl; exact rfl; exact bn) | (apply RWu; exact rfl; exact rfl; exact rfl; exact rfl) | (apply RW_same; exact rfl; exact gk; exact op1) | (apply RW_box; exact rfl; exact gk; (first | exact T_alloc | exact T_boxA rfl | exact T_box1 rfl rfl); intro _) | (apply RW_st; exact gk; exact st1))
  refine RW_indexE rfl (by exact gk) rfl hls rfl rfl (by omega) he ?_
  rintro b o cs ⟨kv, vv, rfl, hkv, hvv⟩ hats
  have hkv0 := hkv
  have hvv0 := hvv
  obtain ⟨ak, ck, rfl, hck, hsk⟩ := hkv0
  obtain ⟨av, cv, rfl, hcv, hsvv⟩ := hvv0
  repeat (first | apply CW_seq | apply CW_region | apply RW_nil | apply thenQ_normal | apply thenQ_ret | apply thenQ_exit | apply blockQ_normal | apply blockQ_ret | apply blockQ_exit | (apply Xn; exact rfl) | apply CW_skip | apply CW_ret | apply CW_exit | apply CW_block | (apply CW_cf; exact rfl; exact bf) | (apply CW_ct; exact rfl; exact bt) | (apply RW_no; exact rfl; exact rfl; exact rfl; exact rfl; exact bn) | (apply RWu; exact rfl; exact rfl; exact rfl; exact rfl) | (apply RW_same; exact rfl; exact gk; exact op1) | (apply RW_box; exact rfl; exact gk; (first | exact T_alloc | exact T_boxA rfl | exact T_box1 rfl rfl); intro _) | (apply RW_st; exact gk; exact st1))
  refine CW_cond_ndec rfl (fun h => ?_) (fun h => ?_)
  · have e : setV cells v name x = (cells, 8) := by rw [hsv, if_neg h]
    rw [e]
    repeat (first | apply CW_seq | apply CW_region | apply RW_nil | apply thenQ_normal | apply thenQ_ret | apply thenQ_exit | apply blockQ_normal | apply blockQ_ret | apply blockQ_exit | (apply Xn; exact rfl) | apply CW_skip | apply CW_ret | apply CW_exit | apply CW_block | (apply CW_cf; exact rfl; exact bf) | (apply CW_ct; exact rfl; exact bt) | (apply RW_no; exact rfl; exact rfl; exact rfl; exact rfl; exact bn) | (apply RWu; exact rfl; exact rfl; exact rfl; exact rfl) | (apply RW_same; exact rfl; exact gk; exact op1) | (apply RW_box; exact rfl; exact gk; (first | exact T_alloc | exact T_boxA rfl | exact T_box1 rfl rfl); intro _) | (apply RW_st; exact gk; exact st1))
    first | refine rR (H) (h := ?_) | refine rN (H) (h := ?_)
    exact ⟨_, rfl, hl, Mem.le.refl _, rfl⟩
  have hk1 : c.kind = 1 := h
  rw [if_pos hk1] at hsv
  have hkvl := (hwc hk1).2.2.1
  repeat (first | apply CW_seq | apply CW_region | apply RW_nil | apply thenQ_normal | apply thenQ_ret | apply thenQ_exit | apply blockQ_normal | apply blockQ_ret | apply blockQ_exit | (apply Xn; exact rfl) | apply CW_skip | apply CW_ret | apply CW_exit | apply CW_block | (apply CW_cf; exact rfl; exact bf) | (apply CW_ct; exact rfl; exact bt) | (apply RW_no; exact rfl; exact rfl; exact rfl; exact rfl; exact bn) | (apply RWu; exact rfl; exact rfl; exact rfl; exact rfl) | (apply RW_same; exact rfl; exact gk; exact op1) | (apply RW_box; exact rfl; exact gk; (first | exact T_alloc | exact T_boxA rfl | exact T_box1 rfl rfl); intro _) | (apply RW_st; exact gk; exact st1))
  refine RW_indexE rfl (by exact gk) rfl hls rfl rfl (by omega) he ?_
  rintro b' o' cs ⟨kv', vv', rfl, hkv', hvv'⟩ hats'
  have hkv0 := hkv'
  have hvv0 := hvv'
  obtain ⟨ak', ck', rfl, hck', hsk'⟩ := hkv0
  obtain ⟨av', cv', rfl, hcv', hsvv'⟩ := hvv0
  repeat (first | apply CW_seq | apply CW_region | apply RW_nil | apply thenQ_normal | apply thenQ_ret | apply thenQ_exit | apply blockQ_normal | apply blockQ_ret | apply blockQ_exit | (apply Xn; exact rfl) | apply CW_skip | apply CW_ret | apply CW_exit | apply CW_block | (apply CW_cf; exact rfl; exact bf) | (apply CW_ct; exact rfl; exact bt) | (apply RW_no; exact rfl; exact rfl; exact rfl; exact rfl; exact bn) | (apply RWu; exact rfl; exact rfl; exact rfl; exact rfl) | (apply RW_same; exact rfl; exact gk; exact op1) | (apply RW_box; exact rfl; exact gk; (first | exact T_alloc | exact T_boxA rfl | exact T_box1 rfl rfl); intro _) | (apply RW_st; exact gk; exact st1))
  rename_i b9
  refine RW_any rfl (by exact gk) (T_buildSlice (l' := []) (by rfl) (by decide) (by exact bd)) ?_
  rintro _ _ _ _ ⟨bb, rfl, rfl, rfl⟩
  repeat (first | apply CW_seq | apply CW_region | apply RW_nil | apply thenQ_normal | apply thenQ_ret | apply thenQ_exit | apply blockQ_normal | apply blockQ_ret | apply blockQ_exit | (apply Xn; exact rfl) | apply CW_skip | apply CW_ret | apply CW_exit | apply CW_block | (apply CW_cf; exact rfl; exact bf) | (apply CW_ct; exact rfl; exact bt) | (apply RW_no; exact rfl; exact rfl; exact rfl; exact rfl; exact bn) | (apply RWu; exact rfl; exact rfl; exact rfl; exact rfl) | (apply RW_same; exact rfl; exact gk; exact op1) | (apply RW_box; exact rfl; exact gk; (first | exact T_alloc | exact T_boxA rfl | exact T_box1 rfl rfl); intro _) | (apply RW_st; exact gk; exact st1))
  have hc2 := hc.2
  refine RW_any rfl (by exact gk) (T_appendC rfl rfl rfl rfl hsvv' (by omega) (by omega)) ?_
  rintro _ _ _ _ ⟨a2, p2, h2, rfl, ho2, rfl, rfl⟩
  repeat (first | apply CW_seq | apply CW_region | apply RW_nil | apply thenQ_normal | apply thenQ_ret | apply thenQ_exit | apply blockQ_normal | apply blockQ_ret | apply blockQ_exit | (apply Xn; exact rfl) | apply CW_skip | apply CW_ret | apply CW_exit | apply CW_block | (apply CW_cf; exact rfl; exact bf) | (apply CW_ct; exact rfl; exact bt) | (apply RW_no; exact rfl; exact rfl; exact rfl; exact rfl; exact bn) | (apply RWu; exact rfl; exact rfl; exact rfl; exact rfl) | (apply RW_same; exact rfl; exact gk; exact op1) | (apply RW_box; exact rfl; exact gk; (first | exact T_alloc | exact T_boxA rfl | exact T_box1 rfl rfl); intro _) | (apply RW_st; exact gk; exact st1))
  refine RW_call rfl (by exact gk) rfl (r13_key hkv' hc.1) ?_
  rintro _ _ _ _ ⟨rfl, rfl, rfl⟩
  repeat (first | apply CW_seq | apply CW_region | apply RW_nil | apply thenQ_normal | apply thenQ_ret | apply thenQ_exit | apply blockQ_normal | apply blockQ_ret | apply blockQ_exit | (apply Xn; exact rfl) | apply CW_skip | apply CW_ret | apply CW_exit | apply CW_block | (apply CW_cf; exact rfl; exact bf) | (apply CW_ct; exact rfl; exact bt) | (apply RW_no; exact rfl; exact rfl; exact rfl; exact rfl; exact bn) | (apply RWu; exact rfl; exact rfl; exact rfl; exact rfl) | (apply RW_same; exact rfl; exact gk; exact op1) | (apply RW_box; exact rfl; exact gk; (first | exact T_alloc | exact T_boxA rfl | exact T_box1 rfl rfl); intro _) | (apply RW_st; exact gk; exact st1))
  refine CW_cond_dec rfl (fun h => ?_) (fun h => ?_)
  · obtain ⟨i, hi⟩ : ∃ i, find c.keys name = some i := by
      cases e : find c.keys name with
      | some i => exact ⟨i, rfl⟩
      | none => simp [findI, e] at h
    rw [hi] at hsv
    have hil := find_lt hi
    have hfi : findI c.keys name = i := by simp only [findI, hi]
    rw [hfi, hsv]
    obtain ⟨bv, cur, rfl, rfl, hcl, hos⟩ := ho2.set i (by omega)
    have hcl3 : (i + 1) * 3 ≤ cur.length := hcl
    repeat (first | apply CW_seq | apply CW_region | apply RW_nil | apply thenQ_normal | apply thenQ_ret | apply thenQ_exit | apply blockQ_normal | apply blockQ_ret | apply blockQ_exit | (apply Xn; exact rfl) | apply CW_skip | apply CW_ret | apply CW_exit | apply CW_block | (apply CW_cf; exact rfl; exact bf) | (apply CW_ct; exact rfl; exact bt) | (apply RW_no; exact rfl; exact rfl; exact rfl; exact rfl; exact bn) | (apply RWu; exact rfl; exact rfl; exact rfl; exact rfl) | (apply RW_same; exact rfl; exact gk; exact op1) | (apply RW_box; exact rfl; exact gk; (first | exact T_alloc | exact T_boxA rfl | exact T_box1 rfl rfl); intro _) | (apply RW_st; exact gk; exact st1))
    refine RW_same rfl (by exact gk) (T_indexAddr rfl rfl (by omega)) ?_
    refine RW_st (by exact gk) (T_storeP (l := cur) rfl rfl rfl rfl (by show 0 + (i : Int).toNat * 3 + 3 ≤ cur.length; omega) (by simp only [Int.toNat_natCast, Nat.zero_add]; repeat (first | exact Upd.head | apply Upd.tail | apply Upd.app))) ?_
    repeat (first | apply CW_seq | apply CW_region | apply RW_nil | apply thenQ_normal | apply thenQ_ret | apply thenQ_exit | apply blockQ_normal | apply blockQ_ret | apply blockQ_exit | (apply Xn; exact rfl) | apply CW_skip | apply CW_ret | apply CW_exit | apply CW_block | (apply CW_cf; exact rfl; exact bf) | (apply CW_ct; exact rfl; exact bt) | (apply RW_no; exact rfl; exact rfl; exact rfl; exact rfl; exact bn) | (apply RWu; exact rfl; exact rfl; exact rfl; exact rfl) | (apply RW_same; exact rfl; exact gk; exact op1) | (apply RW_box; exact rfl; exact gk; (first | exact T_alloc | exact T_boxA rfl | exact T_box1 rfl rfl); intro _) | (apply RW_st; exact gk; exact st1))
    refine RW.freeze (hos m x x.cs (Mem.le.refl m) rfl) (F := (b9, box 31 [.int .i64 c.kind, .int .i64 c.a, .int .i64 c.b, .slice ak' c.keys.length ck', .slice (some ⟨bv, 0, none⟩) c.vals.length p2]) :: (b8, box 50 [.slice none 0 0, .int .i64 0]) :: (b7, box 33 x.cs) :: (b5, box 33 v.cs) :: H) (by exact pm) fun m2 hle2 hs2 => ?_
    refine RW_call rfl (by exact gk) rfl (r13_with (c := { c with vals := c.vals.set i x }) (hl.mono hle2) hn hr (hkv'.mono hle2) ⟨_, p2, by simp, by rw [List.length_set]; exact ho2.cap, hs2⟩) ?_
    rintro lv' m3 _ _ ⟨hlv, hle3, rfl⟩
    have hlv0 := hlv
    obtain ⟨l1, l2, rfl, -, -⟩ := hlv0
    repeat (first | apply CW_seq | apply CW_region | apply RW_nil | apply thenQ_normal | apply thenQ_ret | apply thenQ_exit | apply blockQ_normal | apply blockQ_ret | apply blockQ_exit | (apply Xn; exact rfl) | apply CW_skip | apply CW_ret | apply CW_exit | apply CW_block | (apply CW_cf; exact rfl; exact bf) | (apply CW_ct; exact rfl; exact bt) | (apply RW_no; exact rfl; exact rfl; exact rfl; exact rfl; exact bn) | (apply RWu; exact rfl; exact rfl; exact rfl; exact rfl) | (apply RW_same; exact rfl; exact gk; exact op1) | (apply RW_box; exact rfl; exact gk; (first | exact T_alloc | exact T_boxA rfl | exact T_box1 rfl rfl); intro _) | (apply RW_st; exact gk; exact st1))
    first | refine rR (H) (h := ?_) | refine rN (H) (h := ?_)
    exact ⟨_, rfl, hlv, hle2.trans hle3, rfl⟩
  have hi : find c.keys name = none := by
    cases e : find c.keys name with
    | some i => simp [findI, e] at h
    | none => rfl
  rw [hi] at hsv
  repeat (first | apply CW_seq | apply CW_region | apply RW_nil | apply thenQ_normal | apply thenQ_ret | apply thenQ_exit | apply blockQ_normal | apply blockQ_ret | apply blockQ_exit | (apply Xn; exact rfl) | apply CW_skip | apply CW_ret | apply CW_exit | apply CW_block | (apply CW_cf; exact rfl; exact bf) | (apply CW_ct; exact rfl; exact bt) | (apply RW_no; exact rfl; exact rfl; exact rfl; exact rfl; exact bn) | (apply RWu; exact rfl; exact rfl; exact rfl; exact rfl) | (apply RW_same; exact rfl; exact gk; exact op1) | (apply RW_box; exact rfl; exact gk; (first | exact T_alloc | exact T_boxA rfl | exact T_box1 rfl rfl); intro _) | (apply RW_st; exact gk; exact st1))
  refine CW_cond_dec rfl (fun h => ?_) (fun h => ?_)
  · have hge : 1024 ≤ c.keys.length := by omega
    simp only [if_pos hge] at hsv
    rw [hsv]
    repeat (first | apply CW_seq | apply CW_region | apply RW_nil | apply thenQ_normal | apply thenQ_ret | apply thenQ_exit | apply blockQ_normal | apply blockQ_ret | apply blockQ_exit | (apply Xn; exact rfl) | apply CW_skip | apply CW_ret | apply CW_exit | apply CW_block | (apply CW_cf; exact rfl; exact bf) | (apply CW_ct; exact rfl; exact bt) | (apply RW_no; exact rfl; exact rfl; exact rfl; exact rfl; exact bn) | (apply RWu; exact rfl; exact rfl; exact rfl; exact rfl) | (apply RW_same; exact rfl; exact gk; exact op1) | (apply RW_box; exact rfl; exact gk; (first | exact T_alloc | exact T_boxA rfl | exact T_box1 rfl rfl); intro _) | (apply RW_st; exact gk; exact st1))
    first | refine rR (H) (h := ?_) | refine rN (H) (h := ?_)
    exact ⟨_, rfl, hl, Mem.le.refl _, rfl⟩
  have hge : ¬ 1024 ≤ c.keys.length := by omega
  simp only [if_neg hge] at hsv
  rw [hsv]
  have hc1 := hc.1
  obtain ⟨_, xs2, hq2, hx2⟩ := ho2
  repeat (first | apply CW_seq | apply CW_region | apply RW_nil | apply thenQ_normal | apply thenQ_ret | apply thenQ_exit | apply blockQ_normal | apply blockQ_ret | apply blockQ_exit | (apply Xn; exact rfl) | apply CW_skip | apply CW_ret | apply CW_exit | apply CW_block | (apply CW_cf; exact rfl; exact bf) | (apply CW_ct; exact rfl; exact bt) | (apply RW_no; exact rfl; exact rfl; exact rfl; exact rfl; exact bn) | (apply RWu; exact rfl; exact rfl; exact rfl; exact rfl) | (apply RW_same; exact rfl; exact gk; exact op1) | (apply RW_box; exact rfl; exact gk; (first | exact T_alloc | exact T_boxA rfl | exact T_box1 rfl rfl); intro _) | (apply RW_st; exact gk; exact st1))
  refine RW_any rfl (by exact gk) (T_buildSlice (l' := []) (by rfl) (by decide) (by exact bd)) ?_
  rintro _ _ _ _ ⟨bk, rfl, rfl, rfl⟩
  repeat (first | apply CW_seq | apply CW_region | apply RW_nil | apply thenQ_normal | apply thenQ_ret | apply thenQ_exit | apply blockQ_normal | apply blockQ_ret | apply blockQ_exit | (apply Xn; exact rfl) | apply CW_skip | apply CW_ret | apply CW_exit | apply CW_block | (apply CW_cf; exact rfl; exact bf) | (apply CW_ct; exact rfl; exact bt) | (apply RW_no; exact rfl; exact rfl; exact rfl; exact rfl; exact bn) | (apply RWu; exact rfl; exact rfl; exact rfl; exact rfl) | (apply RW_same; exact rfl; exact gk; exact op1) | (apply RW_box; exact rfl; exact gk; (first | exact T_alloc | exact T_boxA rfl | exact T_box1 rfl rfl); intro _) | (apply RW_st; exact gk; exact st1))
  refine RW_any rfl (by exact gk) (T_appendC rfl rfl rfl rfl hsk' (by omega) (by omega)) ?_
  rintro _ _ _ _ ⟨a1, p1, h1, rfl, ⟨_, xs1, hq1, hx1⟩, rfl, rfl⟩
  repeat (first | apply CW_seq | apply CW_region | apply RW_nil | apply thenQ_normal | apply thenQ_ret | apply thenQ_exit | apply blockQ_normal | apply blockQ_ret | apply blockQ_exit | (apply Xn; exact rfl) | apply CW_skip | apply CW_ret | apply CW_exit | apply CW_block | (apply CW_cf; exact rfl; exact bf) | (apply CW_ct; exact rfl; exact bt) | (apply RW_no; exact rfl; exact rfl; exact rfl; exact rfl; exact bn) | (apply RWu; exact rfl; exact rfl; exact rfl; exact rfl) | (apply RW_same; exact rfl; exact gk; exact op1) | (apply RW_box; exact rfl; exact gk; (first | exact T_alloc | exact T_boxA rfl | exact T_box1 rfl rfl); intro _) | (apply RW_st; exact gk; exact st1))
  refine RW_any rfl (by exact gk) (T_buildSlice (l' := [str name]) (by rfl) (by decide) (by exact bd)) ?_
  rintro _ _ _ _ ⟨k3, rfl, rfl, rfl⟩
  refine RW_any rfl (by exact gk) (T_append (news := [str name]) (by rfl) rfl rfl hx1 (by repeat (first | exact pull_here | exact pull_end | apply pull_skip | apply pull_app)) (Ats.own (by (repeat (first | exact List.Mem.head _ | apply List.Mem.tail | apply List.mem_append_right)))) rfl rfl (by omega) (by omega)) ?_
  rintro _ _ _ _ ⟨a1', p1', h1', rfl, hw1, rfl, rfl⟩
  repeat (first | apply CW_seq | apply CW_region | apply RW_nil | apply thenQ_normal | apply thenQ_ret | apply thenQ_exit | apply blockQ_normal | apply blockQ_ret | apply blockQ_exit | (apply Xn; exact rfl) | apply CW_skip | apply CW_ret | apply CW_exit | apply CW_block | (apply CW_cf; exact rfl; exact bf) | (apply CW_ct; exact rfl; exact bt) | (apply RW_no; exact rfl; exact rfl; exact rfl; exact rfl; exact bn) | (apply RWu; exact rfl; exact rfl; exact rfl; exact rfl) | (apply RW_same; exact rfl; exact gk; exact op1) | (apply RW_box; exact rfl; exact gk; (first | exact T_alloc | exact T_boxA rfl | exact T_box1 rfl rfl); intro _) | (apply RW_st; exact gk; exact st1))
  refine RW_any rfl (by exact gk) (T_buildSlice (l' := x.cs) (by rfl) (by decide) (by exact bd)) ?_
  rintro _ _ _ _ ⟨k8, rfl, rfl, rfl⟩
  refine RW_any rfl (by exact gk) (T_append (news := x.cs) (by rfl) rfl rfl hx2 (by repeat (first | exact pull_here | exact pull_end | apply pull_skip | apply pull_app)) (Ats.own (by (repeat (first | exact List.Mem.head _ | apply List.Mem.tail | apply List.mem_append_right)))) rfl rfl (by omega) (by omega)) ?_
  rintro _ _ _ _ ⟨a2', p2', h2', rfl, hw2, rfl, rfl⟩
  repeat (first | apply CW_seq | apply CW_region | apply RW_nil | apply thenQ_normal | apply thenQ_ret | apply thenQ_exit | apply blockQ_normal | apply blockQ_ret | apply blockQ_exit | (apply Xn; exact rfl) | apply CW_skip | apply CW_ret | apply CW_exit | apply CW_block | (apply CW_cf; exact rfl; exact bf) | (apply CW_ct; exact rfl; exact bt) | (apply RW_no; exact rfl; exact rfl; exact rfl; exact rfl; exact bn) | (apply RWu; exact rfl; exact rfl; exact rfl; exact rfl) | (apply RW_same; exact rfl; exact gk; exact op1) | (apply RW_box; exact rfl; exact gk; (first | exact T_alloc | exact T_boxA rfl | exact T_box1 rfl rfl); intro _) | (apply RW_st; exact gk; exact st1))
  have ho1' : OwnT 9 m a1' (c.keys ++ [name]).length p1' (c.keys ++ [name]) h1' := ⟨rfl, _, hq1.append (RepL.single rfl), by rw [show (c.keys ++ [name]).length = c.keys.length + 1 by simp]; exact hw1⟩
  have ho2' : OwnT 33 m a2' (c.vals ++ [x]).length p2' (c.vals ++ [x]) h2' := ⟨rfl, _, hq2.append (RepL.single rfl), by rw [show (c.vals ++ [x]).length = c.vals.length + 1 by simp]; exact hw2⟩
  refine RW.freeze ho2' (.refl _) fun m2 hle2 hs2 => ?_
  refine RW.freeze (ho1'.mono hle2) (F := (b9, box 31 [.int .i64 c.kind, .int .i64 c.a, .int .i64 c.b, .slice a1' (c.keys.length + 1) p1', .slice a2' (c.vals.length + 1) p2']) :: (b8, box 50 [.slice none 0 0, .int .i64 0]) :: (b7, box 33 x.cs) :: (b5, box 33 v.cs) :: (k3, box 9 [str name]) :: (k8, box 33 x.cs) :: H) (by exact pm) fun m3 hle3 hs1 => ?_
  refine RW_call rfl (by exact gk) rfl (r13_with (c := { c with keys := c.keys ++ [name], vals := c.vals ++ [x] }) (hl.mono (hle2.trans hle3)) hn hr ⟨a1', p1', by simp, ho1'.cap, hs1⟩ ⟨a2', p2', by simp, ho2'.cap, hs2.mono hle3⟩) ?_
  rintro lv' m4 _ _ ⟨hlv, hle4, rfl⟩
  have hlv0 := hlv
  obtain ⟨l1, l2, rfl, -, -⟩ := hlv0
  repeat (first | apply CW_seq | apply CW_region | apply RW_nil | apply thenQ_normal | apply thenQ_ret | apply thenQ_exit | apply blockQ_normal | apply blockQ_ret | apply blockQ_exit | (apply Xn; exact rfl) | apply CW_skip | apply CW_ret | apply CW_exit | apply CW_block | (apply CW_cf; exact rfl; exact bf) | (apply CW_ct; exact rfl; exact bt) | (apply RW_no; exact rfl; exact rfl; exact rfl; exact rfl; exact bn) | (apply RWu; exact rfl; exact rfl; exact rfl; exact rfl) | (apply RW_same; exact rfl; exact gk; exact op1) | (apply RW_box; exact rfl; exact gk; (first | exact T_alloc | exact T_boxA rfl | exact T_box1 rfl rfl); intro _) | (apply RW_st; exact gk; exact st1))
  first | refine rR (H) (h := ?_) | refine rN (H) (h := ?_)
  exact ⟨_, rfl, hlv, (hle2.trans hle3).trans hle4, rfl⟩
end Go.Proofs.YtbhpofplencjgaaDoor
