/- Lists are one. Conditions: none. -/
import Derived.Test.YtbhpofplencjgaaDoorB1
namespace Go.Proofs.YtbhpofplencjgaaDoor
open Go Go.WL
set_option linter.unusedSimpArgs false
set_option linter.unusedVariables false
attribute [local irreducible] OpP OpT RW CW AW FnR FnP BinR At thenQ blockQ bodyQ

theorem r1_SameTexts {m : Mem} {H : Hp} {va vb : Value} {la lb : List S} (ha : SlV m va la) (hb : SlV m vb lb) (hl : la.length ≤ 1000000) :
    FnR Tryd.prog 57 #[va, vb] m H fun v' m' H' => v' = .bool (decide (la = lb)) ∧ m = m' ∧ H = H' := by
  obtain ⟨a, ca, rfl, hca, hsa⟩ := ha
  obtain ⟨b, cb, rfl, hcb, hsb⟩ := hb
  refine FnR.enter Tryd.func57 rfl Tryd.ntmps57 rfl fun s => ?_
  repeat (first | apply CW_seq | apply CW_region | apply RW_nil | apply thenQ_normal | apply thenQ_ret | apply thenQ_exit | apply blockQ_normal | apply blockQ_ret | apply blockQ_exit | (apply Xn; exact rfl) | apply CW_skip | apply CW_ret | apply CW_exit | apply CW_block | (apply CW_cf; exact rfl; exact bf) | (apply CW_ct; exact rfl; exact bt) | (apply RW_no; exact rfl; exact rfl; exact rfl; exact rfl; exact bn) | (apply RWu; exact rfl; exact rfl; exact rfl; exact rfl) | (apply RW_same; exact rfl; exact gk; exact op1) | (apply RW_box; exact rfl; exact gk; (first | exact T_alloc | exact T_boxA rfl | exact T_box1 rfl rfl); intro _) | (apply RW_st; exact gk; exact st1))
  refine CW_cond_ndec rfl (fun h => ?_) (fun h => ?_)
  · repeat (first | apply CW_seq | apply CW_region | apply RW_nil | apply thenQ_normal | apply thenQ_ret | apply thenQ_exit | apply blockQ_normal | apply blockQ_ret | apply blockQ_exit | (apply Xn; exact rfl) | apply CW_skip | apply CW_ret | apply CW_exit | apply CW_block | (apply CW_cf; exact rfl; exact bf) | (apply CW_ct; exact rfl; exact bt) | (apply RW_no; exact rfl; exact rfl; exact rfl; exact rfl; exact bn) | (apply RWu; exact rfl; exact rfl; exact rfl; exact rfl) | (apply RW_same; exact rfl; exact gk; exact op1) | (apply RW_box; exact rfl; exact gk; (first | exact T_alloc | exact T_boxA rfl | exact T_box1 rfl rfl); intro _) | (apply RW_st; exact gk; exact st1))
    first | refine rR _ (hs := List.Sublist.refl _) (h := ?_) | refine rN _ (hs := List.Sublist.refl _) (h := ?_)
    refine ⟨?_, rfl, rfl⟩
    rw [decide_eq_false (fun e => h (by rw [e]))]
    rfl
  have hlen : la.length = lb.length := by omega
  repeat (first | apply CW_seq | apply CW_region | apply RW_nil | apply thenQ_normal | apply thenQ_ret | apply thenQ_exit | apply blockQ_normal | apply blockQ_ret | apply blockQ_exit | (apply Xn; exact rfl) | apply CW_skip | apply CW_ret | apply CW_exit | apply CW_block | (apply CW_cf; exact rfl; exact bf) | (apply CW_ct; exact rfl; exact bt) | (apply RW_no; exact rfl; exact rfl; exact rfl; exact rfl; exact bn) | (apply RWu; exact rfl; exact rfl; exact rfl; exact rfl) | (apply RW_same; exact rfl; exact gk; exact op1) | (apply RW_box; exact rfl; exact gk; (first | exact T_alloc | exact T_boxA rfl | exact T_box1 rfl rfl); intro _) | (apply RW_st; exact gk; exact st1))
  refine CW_loop (fun k : Nat => [(0, .slice a la.length ca), (1, .slice b lb.length cb), (5, .int .i64 k)]) (fun _ => m) (fun _ => H) (fun k => k ≤ la.length ∧ ∀ j (hj : j < k) (hj' : j < la.length), la[j] = lb[j]'(by omega)) (fun k => la.length - k) 0 (by exact sb) rfl (.refl _) ⟨by omega, fun j hj => by omega⟩ ?_
  rintro k ⟨hk, hall⟩
  repeat (first | apply CW_seq | apply CW_region | apply RW_nil | apply thenQ_normal | apply thenQ_ret | apply thenQ_exit | apply blockQ_normal | apply blockQ_ret | apply blockQ_exit | (apply Xn; exact rfl) | apply CW_skip | apply CW_ret | apply CW_exit | apply CW_block | (apply CW_cf; exact rfl; exact bf) | (apply CW_ct; exact rfl; exact bt) | (apply RW_no; exact rfl; exact rfl; exact rfl; exact rfl; exact bn) | (apply RWu; exact rfl; exact rfl; exact rfl; exact rfl) | (apply RW_same; exact rfl; exact gk; exact op1) | (apply RW_box; exact rfl; exact gk; (first | exact T_alloc | exact T_boxA rfl | exact T_box1 rfl rfl); intro _) | (apply RW_st; exact gk; exact st1))
  refine CW_cond_dec rfl (fun h => ?_) (fun h => ?_)
  · have hka : k < la.length := by omega
    have hkb : k < lb.length := by omega
    obtain ⟨ba, oa, csa, rfl, hxa, hta⟩ := hsa.get k hka
    obtain ⟨bb, ob, csb, rfl, hxb, htb⟩ := hsb.get k hkb
    subst hxa
    subst hxb
    repeat (first | apply CW_seq | apply CW_region | apply RW_nil | apply thenQ_normal | apply thenQ_ret | apply thenQ_exit | apply blockQ_normal | apply blockQ_ret | apply blockQ_exit | (apply Xn; exact rfl) | apply CW_skip | apply CW_ret | apply CW_exit | apply CW_block | (apply CW_cf; exact rfl; exact bf) | (apply CW_ct; exact rfl; exact bt) | (apply RW_no; exact rfl; exact rfl; exact rfl; exact rfl; exact bn) | (apply RWu; exact rfl; exact rfl; exact rfl; exact rfl) | (apply RW_same; exact rfl; exact gk; exact op1) | (apply RW_box; exact rfl; exact gk; (first | exact T_alloc | exact T_boxA rfl | exact T_box1 rfl rfl); intro _) | (apply RW_st; exact gk; exact st1))
    refine CW_draw (fun m' H' => Mem.le m m') 8 9 rfl (by kernel_rfl) ?_
    refine AW_take (i := 0) [8, 3, 2] rfl rfl rfl (by exact gk) (by kernel_rfl) (fun m' H' hSt => T_move rfl) ?_
    refine AW_take (i := 1) [8, 3, 2] rfl rfl rfl (by exact gk) (by kernel_rfl) (fun m' H' hSt => T_move rfl) ?_
    refine AW_take (i := 2) [8, 3] rfl rfl rfl (by exact gk) (by kernel_rfl) (fun m' H' hSt => T_indexAddr rfl rfl (by omega)) ?_
    refine AW_take (i := 3) [8] rfl rfl rfl (by exact gk) (by kernel_rfl) (fun m' H' hSt => T_load rfl ((hta.le hSt).at0 rfl)) ?_
    refine AW_take (i := 4) [8, 7, 6] rfl rfl rfl (by exact gk) (by kernel_rfl) (fun m' H' hSt => T_move rfl) ?_
    refine AW_take (i := 5) [8, 7, 6] rfl rfl rfl (by exact gk) (by kernel_rfl) (fun m' H' hSt => T_move rfl) ?_
    refine AW_take (i := 6) [8, 7] rfl rfl rfl (by exact gk) (by kernel_rfl) (fun m' H' hSt => T_indexAddr rfl rfl (by omega)) ?_
    refine AW_take (i := 7) [8] rfl rfl rfl (by exact gk) (by kernel_rfl) (fun m' H' hSt => T_load rfl ((htb.le hSt).at0 rfl)) ?_
    refine AW_same (i := 8) (by kernel_rfl) (fun _ => Mem.le.refl m) rfl (by exact gk) rfl rfl (T_bin rfl rfl BinR.lneq) ?_
    refine AW_done (by kernel_rfl) (fun h => by cases h) ?_
    repeat (first | apply CW_seq | apply CW_region | apply RW_nil | apply thenQ_normal | apply thenQ_ret | apply thenQ_exit | apply blockQ_normal | apply blockQ_ret | apply blockQ_exit | (apply Xn; exact rfl) | apply CW_skip | apply CW_ret | apply CW_exit | apply CW_block | (apply CW_cf; exact rfl; exact bf) | (apply CW_ct; exact rfl; exact bt) | (apply RW_no; exact rfl; exact rfl; exact rfl; exact rfl; exact bn) | (apply RWu; exact rfl; exact rfl; exact rfl; exact rfl) | (apply RW_same; exact rfl; exact gk; exact op1) | (apply RW_box; exact rfl; exact gk; (first | exact T_alloc | exact T_boxA rfl | exact T_box1 rfl rfl); intro _) | (apply RW_st; exact gk; exact st1))
    refine CW_cond_ndec rfl (fun h => ?_) (fun h => ?_)
    · repeat (first | apply CW_seq | apply CW_region | apply RW_nil | apply thenQ_normal | apply thenQ_ret | apply thenQ_exit | apply blockQ_normal | apply blockQ_ret | apply blockQ_exit | (apply Xn; exact rfl) | apply CW_skip | apply CW_ret | apply CW_exit | apply CW_block | (apply CW_cf; exact rfl; exact bf) | (apply CW_ct; exact rfl; exact bt) | (apply RW_no; exact rfl; exact rfl; exact rfl; exact rfl; exact bn) | (apply RWu; exact rfl; exact rfl; exact rfl; exact rfl) | (apply RW_same; exact rfl; exact gk; exact op1) | (apply RW_box; exact rfl; exact gk; (first | exact T_alloc | exact T_boxA rfl | exact T_box1 rfl rfl); intro _) | (apply RW_st; exact gk; exact st1))
      first | refine rR _ (hs := List.Sublist.refl _) (h := ?_) | refine rN _ (hs := List.Sublist.refl _) (h := ?_)
      refine ⟨?_, rfl, rfl⟩
      rw [decide_eq_false (fun e => h (by subst e; rfl))]
      rfl
    · have hx : la[k] = lb[k] := h
      repeat (first | apply CW_seq | apply CW_region | apply RW_nil | apply thenQ_normal | apply thenQ_ret | apply thenQ_exit | apply blockQ_normal | apply blockQ_ret | apply blockQ_exit | (apply Xn; exact rfl) | apply CW_skip | apply CW_ret | apply CW_exit | apply CW_block | (apply CW_cf; exact rfl; exact bf) | (apply CW_ct; exact rfl; exact bt) | (apply RW_no; exact rfl; exact rfl; exact rfl; exact rfl; exact bn) | (apply RWu; exact rfl; exact rfl; exact rfl; exact rfl) | (apply RW_same; exact rfl; exact gk; exact op1) | (apply RW_box; exact rfl; exact gk; (first | exact T_alloc | exact T_boxA rfl | exact T_box1 rfl rfl); intro _) | (apply RW_st; exact gk; exact st1))
      refine ⟨k + 1, ⟨by omega, fun j hj hj' => ?_⟩, by omega, by exact sb, rfl, [], .refl _⟩
      by_cases e : j = k
      · subst e; exact hx
      · exact hall j (by omega) hj'
  · repeat (first | apply CW_seq | apply CW_region | apply RW_nil | apply thenQ_normal | apply thenQ_ret | apply thenQ_exit | apply blockQ_normal | apply blockQ_ret | apply blockQ_exit | (apply Xn; exact rfl) | apply CW_skip | apply CW_ret | apply CW_exit | apply CW_block | (apply CW_cf; exact rfl; exact bf) | (apply CW_ct; exact rfl; exact bt) | (apply RW_no; exact rfl; exact rfl; exact rfl; exact rfl; exact bn) | (apply RWu; exact rfl; exact rfl; exact rfl; exact rfl) | (apply RW_same; exact rfl; exact gk; exact op1) | (apply RW_box; exact rfl; exact gk; (first | exact T_alloc | exact T_boxA rfl | exact T_box1 rfl rfl); intro _) | (apply RW_st; exact gk; exact st1))
    first | refine rR _ (hs := List.Sublist.refl _) (h := ?_) | refine rN _ (hs := List.Sublist.refl _) (h := ?_)
    refine ⟨?_, rfl, rfl⟩
    rw [decide_eq_true (List.ext_getElem hlen fun j h1 h2 => hall j (by omega) h1)]
    rfl

theorem r1_SameVals {m : Mem} {H : Hp} {va vb : Value} {la lb : List Val} (ha : SlV m va la) (hb : SlV m vb lb) (hl : la.length ≤ 1000000) :
    FnR Tryd.prog 58 #[va, vb] m H fun v' m' H' => v' = .bool (decide (la = lb)) ∧ m = m' ∧ H = H' := by
  obtain ⟨a, ca, rfl, hca, hsa⟩ := ha
  obtain ⟨b, cb, rfl, hcb, hsb⟩ := hb
  refine FnR.enter Tryd.func58 rfl Tryd.ntmps58 rfl fun s => ?_
  repeat (first | apply CW_seq | apply CW_region | apply RW_nil | apply thenQ_normal | apply thenQ_ret | apply thenQ_exit | apply blockQ_normal | apply blockQ_ret | apply blockQ_exit | (apply Xn; exact rfl) | apply CW_skip | apply CW_ret | apply CW_exit | apply CW_block | (apply CW_cf; exact rfl; exact bf) | (apply CW_ct; exact rfl; exact bt) | (apply RW_no; exact rfl; exact rfl; exact rfl; exact rfl; exact bn) | (apply RWu; exact rfl; exact rfl; exact rfl; exact rfl) | (apply RW_same; exact rfl; exact gk; exact op1) | (apply RW_box; exact rfl; exact gk; (first | exact T_alloc | exact T_boxA rfl | exact T_box1 rfl rfl); intro _) | (apply RW_st; exact gk; exact st1))
  refine CW_cond_ndec rfl (fun h => ?_) (fun h => ?_)
  · repeat (first | apply CW_seq | apply CW_region | apply RW_nil | apply thenQ_normal | apply thenQ_ret | apply thenQ_exit | apply blockQ_normal | apply blockQ_ret | apply blockQ_exit | (apply Xn; exact rfl) | apply CW_skip | apply CW_ret | apply CW_exit | apply CW_block | (apply CW_cf; exact rfl; exact bf) | (apply CW_ct; exact rfl; exact bt) | (apply RW_no; exact rfl; exact rfl; exact rfl; exact rfl; exact bn) | (apply RWu; exact rfl; exact rfl; exact rfl; exact rfl) | (apply RW_same; exact rfl; exact gk; exact op1) | (apply RW_box; exact rfl; exact gk; (first | exact T_alloc | exact T_boxA rfl | exact T_box1 rfl rfl); intro _) | (apply RW_st; exact gk; exact st1))
    first | refine rR _ (hs := List.Sublist.refl _) (h := ?_) | refine rN _ (hs := List.Sublist.refl _) (h := ?_)
    refine ⟨?_, rfl, rfl⟩
    rw [decide_eq_false (fun e => h (by rw [e]))]
    rfl
  have hlen : la.length = lb.length := by omega
  repeat (first | apply CW_seq | apply CW_region | apply RW_nil | apply thenQ_normal | apply thenQ_ret | apply thenQ_exit | apply blockQ_normal | apply blockQ_ret | apply blockQ_exit | (apply Xn; exact rfl) | apply CW_skip | apply CW_ret | apply CW_exit | apply CW_block | (apply CW_cf; exact rfl; exact bf) | (apply CW_ct; exact rfl; exact bt) | (apply RW_no; exact rfl; exact rfl; exact rfl; exact rfl; exact bn) | (apply RWu; exact rfl; exact rfl; exact rfl; exact rfl) | (apply RW_same; exact rfl; exact gk; exact op1) | (apply RW_box; exact rfl; exact gk; (first | exact T_alloc | exact T_boxA rfl | exact T_box1 rfl rfl); intro _) | (apply RW_st; exact gk; exact st1))
  refine CW_loop (fun k : Nat => [(0, .slice a la.length ca), (1, .slice b lb.length cb), (5, .int .i64 k)]) (fun _ => m) (fun _ => H) (fun k => k ≤ la.length ∧ ∀ j (hj : j < k) (hj' : j < la.length), la[j] = lb[j]'(by omega)) (fun k => la.length - k) 0 (by exact sb) rfl (.refl _) ⟨by omega, fun j hj => by omega⟩ ?_
  rintro k ⟨hk, hall⟩
  repeat (first | apply CW_seq | apply CW_region | apply RW_nil | apply thenQ_normal | apply thenQ_ret | apply thenQ_exit | apply blockQ_normal | apply blockQ_ret | apply blockQ_exit | (apply Xn; exact rfl) | apply CW_skip | apply CW_ret | apply CW_exit | apply CW_block | (apply CW_cf; exact rfl; exact bf) | (apply CW_ct; exact rfl; exact bt) | (apply RW_no; exact rfl; exact rfl; exact rfl; exact rfl; exact bn) | (apply RWu; exact rfl; exact rfl; exact rfl; exact rfl) | (apply RW_same; exact rfl; exact gk; exact op1) | (apply RW_box; exact rfl; exact gk; (first | exact T_alloc | exact T_boxA rfl | exact T_box1 rfl rfl); intro _) | (apply RW_st; exact gk; exact st1))
  refine CW_cond_dec rfl (fun h => ?_) (fun h => ?_)
  · have hka : k < la.length := by omega
    have hkb : k < lb.length := by omega
    obtain ⟨ba, oa, csa, rfl, hxa, hta⟩ := hsa.get k hka
    obtain ⟨bb, ob, csb, rfl, hxb, htb⟩ := hsb.get k hkb
    subst hxa
    subst hxb
    repeat (first | apply CW_seq | apply CW_region | apply RW_nil | apply thenQ_normal | apply thenQ_ret | apply thenQ_exit | apply blockQ_normal | apply blockQ_ret | apply blockQ_exit | (apply Xn; exact rfl) | apply CW_skip | apply CW_ret | apply CW_exit | apply CW_block | (apply CW_cf; exact rfl; exact bf) | (apply CW_ct; exact rfl; exact bt) | (apply RW_no; exact rfl; exact rfl; exact rfl; exact rfl; exact bn) | (apply RWu; exact rfl; exact rfl; exact rfl; exact rfl) | (apply RW_same; exact rfl; exact gk; exact op1) | (apply RW_box; exact rfl; exact gk; (first | exact T_alloc | exact T_boxA rfl | exact T_box1 rfl rfl); intro _) | (apply RW_st; exact gk; exact st1))
    refine CW_draw (fun m' H' => Mem.le m m') 8 9 rfl (by kernel_rfl) ?_
    refine AW_take (i := 0) [8, 3, 2] rfl rfl rfl (by exact gk) (by kernel_rfl) (fun m' H' hSt => T_move rfl) ?_
    refine AW_take (i := 1) [8, 3, 2] rfl rfl rfl (by exact gk) (by kernel_rfl) (fun m' H' hSt => T_move rfl) ?_
    refine AW_take (i := 2) [8, 3] rfl rfl rfl (by exact gk) (by kernel_rfl) (fun m' H' hSt => T_indexAddr rfl rfl (by omega)) ?_
    refine AW_take (i := 3) [8] rfl rfl rfl (by exact gk) (by kernel_rfl) (fun m' H' hSt => T_loadA rfl (hta.le hSt).h rfl) ?_
    refine AW_take (i := 4) [8, 7, 6] rfl rfl rfl (by exact gk) (by kernel_rfl) (fun m' H' hSt => T_move rfl) ?_
    refine AW_take (i := 5) [8, 7, 6] rfl rfl rfl (by exact gk) (by kernel_rfl) (fun m' H' hSt => T_move rfl) ?_
    refine AW_take (i := 6) [8, 7] rfl rfl rfl (by exact gk) (by kernel_rfl) (fun m' H' hSt => T_indexAddr rfl rfl (by omega)) ?_
    refine AW_take (i := 7) [8] rfl rfl rfl (by exact gk) (by kernel_rfl) (fun m' H' hSt => T_loadA rfl (htb.le hSt).h rfl) ?_
    refine AW_same (i := 8) (by kernel_rfl) (fun _ => Mem.le.refl m) rfl (by exact gk) rfl rfl (T_bin rfl rfl BinR.vneq) ?_
    refine AW_done (by kernel_rfl) (fun h => by cases h) ?_
    repeat (first | apply CW_seq | apply CW_region | apply RW_nil | apply thenQ_normal | apply thenQ_ret | apply thenQ_exit | apply blockQ_normal | apply blockQ_ret | apply blockQ_exit | (apply Xn; exact rfl) | apply CW_skip | apply CW_ret | apply CW_exit | apply CW_block | (apply CW_cf; exact rfl; exact bf) | (apply CW_ct; exact rfl; exact bt) | (apply RW_no; exact rfl; exact rfl; exact rfl; exact rfl; exact bn) | (apply RWu; exact rfl; exact rfl; exact rfl; exact rfl) | (apply RW_same; exact rfl; exact gk; exact op1) | (apply RW_box; exact rfl; exact gk; (first | exact T_alloc | exact T_boxA rfl | exact T_box1 rfl rfl); intro _) | (apply RW_st; exact gk; exact st1))
    refine CW_cond_ndec rfl (fun h => ?_) (fun h => ?_)
    · repeat (first | apply CW_seq | apply CW_region | apply RW_nil | apply thenQ_normal | apply thenQ_ret | apply thenQ_exit | apply blockQ_normal | apply blockQ_ret | apply blockQ_exit | (apply Xn; exact rfl) | apply CW_skip | apply CW_ret | apply CW_exit | apply CW_block | (apply CW_cf; exact rfl; exact bf) | (apply CW_ct; exact rfl; exact bt) | (apply RW_no; exact rfl; exact rfl; exact rfl; exact rfl; exact bn) | (apply RWu; exact rfl; exact rfl; exact rfl; exact rfl) | (apply RW_same; exact rfl; exact gk; exact op1) | (apply RW_box; exact rfl; exact gk; (first | exact T_alloc | exact T_boxA rfl | exact T_box1 rfl rfl); intro _) | (apply RW_st; exact gk; exact st1))
      first | refine rR _ (hs := List.Sublist.refl _) (h := ?_) | refine rN _ (hs := List.Sublist.refl _) (h := ?_)
      refine ⟨?_, rfl, rfl⟩
      rw [decide_eq_false (fun e => h (by subst e; rfl))]
      rfl
    · have hx : la[k] = lb[k] := h
      repeat (first | apply CW_seq | apply CW_region | apply RW_nil | apply thenQ_normal | apply thenQ_ret | apply thenQ_exit | apply blockQ_normal | apply blockQ_ret | apply blockQ_exit | (apply Xn; exact rfl) | apply CW_skip | apply CW_ret | apply CW_exit | apply CW_block | (apply CW_cf; exact rfl; exact bf) | (apply CW_ct; exact rfl; exact bt) | (apply RW_no; exact rfl; exact rfl; exact rfl; exact rfl; exact bn) | (apply RWu; exact rfl; exact rfl; exact rfl; exact rfl) | (apply RW_same; exact rfl; exact gk; exact op1) | (apply RW_box; exact rfl; exact gk; (first | exact T_alloc | exact T_boxA rfl | exact T_box1 rfl rfl); intro _) | (apply RW_st; exact gk; exact st1))
      refine ⟨k + 1, ⟨by omega, fun j hj hj' => ?_⟩, by omega, by exact sb, rfl, [], .refl _⟩
      by_cases e : j = k
      · subst e; exact hx
      · exact hall j (by omega) hj'
  · repeat (first | apply CW_seq | apply CW_region | apply RW_nil | apply thenQ_normal | apply thenQ_ret | apply thenQ_exit | apply blockQ_normal | apply blockQ_ret | apply blockQ_exit | (apply Xn; exact rfl) | apply CW_skip | apply CW_ret | apply CW_exit | apply CW_block | (apply CW_cf; exact rfl; exact bf) | (apply CW_ct; exact rfl; exact bt) | (apply RW_no; exact rfl; exact rfl; exact rfl; exact rfl; exact bn) | (apply RWu; exact rfl; exact rfl; exact rfl; exact rfl) | (apply RW_same; exact rfl; exact gk; exact op1) | (apply RW_box; exact rfl; exact gk; (first | exact T_alloc | exact T_boxA rfl | exact T_box1 rfl rfl); intro _) | (apply RW_st; exact gk; exact st1))
    first | refine rR _ (hs := List.Sublist.refl _) (h := ?_) | refine rN _ (hs := List.Sublist.refl _) (h := ?_)
    refine ⟨?_, rfl, rfl⟩
    rw [decide_eq_true (List.ext_getElem hlen fun j h1 h2 => hall j (by omega) h1)]
    rfl

end Go.Proofs.YtbhpofplencjgaaDoor
