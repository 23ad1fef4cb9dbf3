/- The book's functions. Conditions: none. -/
import Derived.Test.YtbhpofplencjgaaDoorP2
namespace Go.Proofs.YtbhpofplencjgaaDoor
open Go Go.WL
set_option linter.unusedSimpArgs false
set_option linter.unusedVariables false
attribute [local irreducible] OpP OpT RW CW AW FnR FnP BinR At thenQ blockQ bodyQ

theorem book_Len {bk : Nat} {x : Int} {m : Mem} {H : Hp} (h : At m H bk 2 (.int .i64 x)) :
    FnR Tryd.prog 59 #[.pointer (some ⟨bk, 0, none⟩)] m H fun v m' H' => v = .int .i64 x ∧ m = m' ∧ H = H' := by
  refine FnR.enter Tryd.func59 rfl Tryd.ntmps59 rfl fun s => ?_
  repeat (first | apply CW_seq | apply CW_region | apply RW_nil | apply thenQ_normal | apply thenQ_ret | apply thenQ_exit | apply blockQ_normal | apply blockQ_ret | apply blockQ_exit | (apply Xn; exact rfl) | apply CW_skip | apply CW_ret | apply CW_exit | apply CW_block | (apply CW_cf; exact rfl; exact bf) | (apply CW_ct; exact rfl; exact bt) | (apply RW_no; exact rfl; exact rfl; exact rfl; exact rfl; exact bn) | (apply RWu; exact rfl; exact rfl; exact rfl; exact rfl) | (apply RW_same; exact rfl; exact gk; exact op1) | (apply RW_box; exact rfl; exact gk; (first | exact T_alloc | exact T_boxA rfl | exact T_box1 rfl rfl); intro _) | (apply RW_st; exact gk; exact st1))
  first | refine rR _ (hs := List.Sublist.refl _) (h := ?_) | refine rN _ (hs := List.Sublist.refl _) (h := ?_)
  exact ⟨rfl, rfl, rfl⟩

theorem book_has {bk : Nat} {x i : Int} {m : Mem} {H : Hp} (h : At m H bk 2 (.int .i64 x)) :
    FnR Tryd.prog 64 #[.pointer (some ⟨bk, 0, none⟩), .int .i64 i] m H fun v m' H' => v = .bool (decide (0 ≤ i ∧ i < x)) ∧ m = m' ∧ H = H' := by
  refine FnR.enter Tryd.func64 rfl Tryd.ntmps64 rfl fun s => ?_
  repeat (first | apply CW_seq | apply CW_region | apply RW_nil | apply thenQ_normal | apply thenQ_ret | apply thenQ_exit | apply blockQ_normal | apply blockQ_ret | apply blockQ_exit | (apply Xn; exact rfl) | apply CW_skip | apply CW_ret | apply CW_exit | apply CW_block | (apply CW_cf; exact rfl; exact bf) | (apply CW_ct; exact rfl; exact bt) | (apply RW_no; exact rfl; exact rfl; exact rfl; exact rfl; exact bn) | (apply RWu; exact rfl; exact rfl; exact rfl; exact rfl) | (apply RW_same; exact rfl; exact gk; exact op1) | (apply RW_box; exact rfl; exact gk; (first | exact T_alloc | exact T_boxA rfl | exact T_box1 rfl rfl); intro _) | (apply RW_st; exact gk; exact st1))
  refine RW_partd 7 rfl (fun h0 => ?_) (fun h0 => ?_)
  · repeat (first | apply CW_seq | apply CW_region | apply RW_nil | apply thenQ_normal | apply thenQ_ret | apply thenQ_exit | apply blockQ_normal | apply blockQ_ret | apply blockQ_exit | (apply Xn; exact rfl) | apply CW_skip | apply CW_ret | apply CW_exit | apply CW_block | (apply CW_cf; exact rfl; exact bf) | (apply CW_ct; exact rfl; exact bt) | (apply RW_no; exact rfl; exact rfl; exact rfl; exact rfl; exact bn) | (apply RWu; exact rfl; exact rfl; exact rfl; exact rfl) | (apply RW_same; exact rfl; exact gk; exact op1) | (apply RW_box; exact rfl; exact gk; (first | exact T_alloc | exact T_boxA rfl | exact T_box1 rfl rfl); intro _) | (apply RW_st; exact gk; exact st1))
    refine RW_call rfl (by exact gk) rfl (book_Len h) ?_
    rintro _ _ _ hle ⟨rfl, rfl, rfl⟩
    repeat (first | apply CW_seq | apply CW_region | apply RW_nil | apply thenQ_normal | apply thenQ_ret | apply thenQ_exit | apply blockQ_normal | apply blockQ_ret | apply blockQ_exit | (apply Xn; exact rfl) | apply CW_skip | apply CW_ret | apply CW_exit | apply CW_block | (apply CW_cf; exact rfl; exact bf) | (apply CW_ct; exact rfl; exact bt) | (apply RW_no; exact rfl; exact rfl; exact rfl; exact rfl; exact bn) | (apply RWu; exact rfl; exact rfl; exact rfl; exact rfl) | (apply RW_same; exact rfl; exact gk; exact op1) | (apply RW_box; exact rfl; exact gk; (first | exact T_alloc | exact T_boxA rfl | exact T_box1 rfl rfl); intro _) | (apply RW_st; exact gk; exact st1))
    first | refine rR _ (hs := List.Sublist.refl _) (h := ?_) | refine rN _ (hs := List.Sublist.refl _) (h := ?_)
    refine ⟨?_, rfl, rfl⟩
    simp [tupleOf, h0]
  · repeat (first | apply CW_seq | apply CW_region | apply RW_nil | apply thenQ_normal | apply thenQ_ret | apply thenQ_exit | apply blockQ_normal | apply blockQ_ret | apply blockQ_exit | (apply Xn; exact rfl) | apply CW_skip | apply CW_ret | apply CW_exit | apply CW_block | (apply CW_cf; exact rfl; exact bf) | (apply CW_ct; exact rfl; exact bt) | (apply RW_no; exact rfl; exact rfl; exact rfl; exact rfl; exact bn) | (apply RWu; exact rfl; exact rfl; exact rfl; exact rfl) | (apply RW_same; exact rfl; exact gk; exact op1) | (apply RW_box; exact rfl; exact gk; (first | exact T_alloc | exact T_boxA rfl | exact T_box1 rfl rfl); intro _) | (apply RW_st; exact gk; exact st1))
    first | refine rR _ (hs := List.Sublist.refl _) (h := ?_) | refine rN _ (hs := List.Sublist.refl _) (h := ?_)
    refine ⟨?_, rfl, rfl⟩
    simp [tupleOf, h0]

theorem book_mine {bk pb np pc pg k : Nat} {m : Mem} {H : Hp} (h1 : At m H bk 1 (.slice (some ⟨pb, 0, none⟩) np pc)) (hk : k < np) (h2 : At m H pb k (.pointer (some ⟨pg, 0, none⟩))) (h3 : At m H pg 1 (.int .i64 1)) :
    FnR Tryd.prog 47 #[.pointer (some ⟨bk, 0, none⟩), .int .i64 k] m H fun v m' H' => v = .pointer (some ⟨pg, 0, none⟩) ∧ m = m' ∧ H = H' := by
  refine FnR.enter Tryd.func47 rfl Tryd.ntmps47 rfl fun s => ?_
  repeat (first | apply CW_seq | apply CW_region | apply RW_nil | apply thenQ_normal | apply thenQ_ret | apply thenQ_exit | apply blockQ_normal | apply blockQ_ret | apply blockQ_exit | (apply Xn; exact rfl) | apply CW_skip | apply CW_ret | apply CW_exit | apply CW_block | (apply CW_cf; exact rfl; exact bf) | (apply CW_ct; exact rfl; exact bt) | (apply RW_no; exact rfl; exact rfl; exact rfl; exact rfl; exact bn) | (apply RWu; exact rfl; exact rfl; exact rfl; exact rfl) | (apply RW_same; exact rfl; exact gk; exact op1) | (apply RW_box; exact rfl; exact gk; (first | exact T_alloc | exact T_boxA rfl | exact T_box1 rfl rfl); intro _) | (apply RW_st; exact gk; exact st1))
  refine RW_same rfl (by exact gk) (T_indexAddr rfl rfl (by omega)) ?_
  refine RW_same rfl (by exact gk) (T_load rfl (v := .pointer (some ⟨pg, 0, none⟩)) (by simpa using h2)) ?_
  repeat (first | apply CW_seq | apply CW_region | apply RW_nil | apply thenQ_normal | apply thenQ_ret | apply thenQ_exit | apply blockQ_normal | apply blockQ_ret | apply blockQ_exit | (apply Xn; exact rfl) | apply CW_skip | apply CW_ret | apply CW_exit | apply CW_block | (apply CW_cf; exact rfl; exact bf) | (apply CW_ct; exact rfl; exact bt) | (apply RW_no; exact rfl; exact rfl; exact rfl; exact rfl; exact bn) | (apply RWu; exact rfl; exact rfl; exact rfl; exact rfl) | (apply RW_same; exact rfl; exact gk; exact op1) | (apply RW_box; exact rfl; exact gk; (first | exact T_alloc | exact T_boxA rfl | exact T_box1 rfl rfl); intro _) | (apply RW_st; exact gk; exact st1))
  first | refine rR _ (hs := List.Sublist.refl _) (h := ?_) | refine rN _ (hs := List.Sublist.refl _) (h := ?_)
  exact ⟨rfl, rfl, rfl⟩

/-- cells that are small enough to be copied -/
def Small (c : Cel) : Prop := c.keys.length ≤ 1000000 ∧ c.vals.length ≤ 1000000

structure BookAt (m : Mem) (bk : Nat) (cells : List Cel) (hs : Hp) : Prop where
  n : cells.length ≤ 4096
  small : ∀ c ∈ cells, Small c
  mem : ∃ fam a cap ps hp hq, hs = (bk, box 87 [.pointer (some ⟨fam, 0, none⟩), .slice a ps.length cap, .int .i64 cells.length, .bool false]) :: (fam, box 84 [.int .i64 ps.length]) :: (hp ++ hq) ∧
    OwnT 88 m a ps.length cap ps hp ∧ PagesAt m ps (chunk8 cells) hq

theorem BookAt.mono {m m' bk cells hs} (hle : Mem.le m m') (h : BookAt m bk cells hs) : BookAt m' bk cells hs := by
  obtain ⟨h1, h2, fam, a, cap, ps, hp, hq, e, h3, h4⟩ := h
  exact ⟨h1, h2, fam, a, cap, ps, hp, hq, e, h3.mono hle, h4.mono hle⟩

/-- where a cell of a book is -/
theorem BookAt.at {m bk cells hs} (h : BookAt m bk cells hs) (i : Nat) (hi : i < cells.length) : ∃ pb np pc pg lb n cap cs fam,
    i / 8 < np ∧ i % 8 < n ∧ Rep.cells m cells[i] cs ∧
    (bk, box 87 [fam, .slice (some ⟨pb, 0, none⟩) np pc, .int .i64 cells.length, .bool false]) ∈ hs ∧
    (pg, box 90 [.slice (some ⟨lb, 0, none⟩) n cap, .int .i64 1]) ∈ hs ∧
    ∀ H, (∀ p ∈ hs, p ∈ H) → At m H pb (i / 8) (.pointer (some ⟨pg, 0, none⟩)) ∧ Ats m H lb (i % 8 * 5) cs := by
  obtain ⟨h1, h2, fam, a, cap, ps, hp, hq, e, h3, h4⟩ := h
  have hl := h4.len
  rw [chunk8_len] at hl
  have hk : i / 8 < ps.length := by omega
  have hk' : i / 8 < (chunk8 cells).length := by rw [chunk8_len]; omega
  obtain ⟨b, cur, cs0, e1, e2, h5, _, h6⟩ := h3.at (i / 8) hk
  obtain ⟨a', cap', hs1, h7, h8, h9⟩ := h4.at (i / 8) hk hk'
  have hpg : (chunk8 cells)[i / 8] = (cells.drop (8 * (i / 8))).take 8 := chunk8_get cells _ hk'
  have hlt : i % 8 < ((chunk8 cells)[i / 8]).length := by rw [hpg, List.length_take, List.length_drop]; omega
  obtain ⟨lb, cur2, cs, e3, e4, h10, _, h11⟩ := h7.at (i % 8) hlt
  have hget : ((chunk8 cells)[i / 8])[i % 8] = cells[i] := by
    simp only [hpg, List.getElem_take, List.getElem_drop]
    congr 1
    omega
  rw [hget] at h10
  subst e1; subst e3; subst e2; subst e4
  refine ⟨b, ps.length, cap, ps[i / 8].b, lb, _, cap', cs, _, hk, hlt, h10, by rw [e]; simp; exact .inl rfl, by rw [e]; simp [h8], fun H hH => ⟨?_, ?_⟩⟩
  · have := h6 H (hH _ (by rw [e]; simp))
    subst h5
    have := this 0 _ rfl
    simpa [Rep.sz] using this
  · exact h11 H (hH _ (by rw [e]; simp; exact .inr (.inr (.inr (h9 _ (by simp))))))

theorem book_Get {bk : Nat} {i : Int} {m : Mem} {hs F : Hp} {cells : List Cel} (hb : BookAt m bk cells hs) (hi : 0 ≤ i ∧ i < cells.length) :
    FnR Tryd.prog 53 #[.pointer (some ⟨bk, 0, none⟩), .int .i64 i] m (hs ++ F) fun v m' H' => ∃ kv vv h1 h2,
      v = .tuple #[.agg #[.int .i64 (cells[i.toNat]'(by omega)).kind, .int .i64 (cells[i.toNat]'(by omega)).a, .int .i64 (cells[i.toNat]'(by omega)).b, kv, vv], .int .i64 0] ∧
      Cop 9 m kv (cells[i.toNat]'(by omega)).keys h1 ∧ Cop 33 m vv (cells[i.toNat]'(by omega)).vals h2 ∧ m = m' ∧ H' = h2 ++ (h1 ++ (hs ++ F)) := by
  obtain ⟨k, rfl⟩ := Int.eq_ofNat_of_zero_le hi.1
  have hk : k < cells.length := by omega
  simp only [Int.toNat_natCast]
  obtain ⟨pb, np, pc, pg, lb, n, cap, cs, fam, hq, hr, ⟨kv, vv, rfl, hkv, hvv⟩, g1, g2, g3⟩ := hb.at k hk
  have hsm := hb.small _ (List.getElem_mem hk)
  have hn := hb.n
  refine FnR.enter Tryd.func53 rfl Tryd.ntmps53 rfl fun s => ?_
  repeat (first | apply CW_seq | apply CW_region | apply RW_nil | apply thenQ_normal | apply thenQ_ret | apply thenQ_exit | apply blockQ_normal | apply blockQ_ret | apply blockQ_exit | (apply Xn; exact rfl) | apply CW_skip | apply CW_ret | apply CW_exit | apply CW_block | (apply CW_cf; exact rfl; exact bf) | (apply CW_ct; exact rfl; exact bt) | (apply RW_no; exact rfl; exact rfl; exact rfl; exact rfl; exact bn) | (apply RWu; exact rfl; exact rfl; exact rfl; exact rfl) | (apply RW_same; exact rfl; exact gk; exact op1) | (apply RW_box; exact rfl; exact gk; (first | exact T_alloc | exact T_boxA rfl | exact T_box1 rfl rfl); intro _) | (apply RW_st; exact gk; exact st1))
  rename_i br
  refine RW_call rfl (by exact gk) rfl (book_has (At.own (T := 87) (List.Mem.tail _ (List.mem_append_left _ g1)) rfl)) ?_
  rintro _ _ _ _ ⟨rfl, rfl, rfl⟩
  repeat (first | apply CW_seq | apply CW_region | apply RW_nil | apply thenQ_normal | apply thenQ_ret | apply thenQ_exit | apply blockQ_normal | apply blockQ_ret | apply blockQ_exit | (apply Xn; exact rfl) | apply CW_skip | apply CW_ret | apply CW_exit | apply CW_block | (apply CW_cf; exact rfl; exact bf) | (apply CW_ct; exact rfl; exact bt) | (apply RW_no; exact rfl; exact rfl; exact rfl; exact rfl; exact bn) | (apply RWu; exact rfl; exact rfl; exact rfl; exact rfl) | (apply RW_same; exact rfl; exact gk; exact op1) | (apply RW_box; exact rfl; exact gk; (first | exact T_alloc | exact T_boxA rfl | exact T_box1 rfl rfl); intro _) | (apply RW_st; exact gk; exact st1))
  refine CW_cond_ndec rfl (fun h => ?_) (fun h => ?_)
  · omega
  repeat (first | apply CW_seq | apply CW_region | apply RW_nil | apply thenQ_normal | apply thenQ_ret | apply thenQ_exit | apply blockQ_normal | apply blockQ_ret | apply blockQ_exit | (apply Xn; exact rfl) | apply CW_skip | apply CW_ret | apply CW_exit | apply CW_block | (apply CW_cf; exact rfl; exact bf) | (apply CW_ct; exact rfl; exact bt) | (apply RW_no; exact rfl; exact rfl; exact rfl; exact rfl; exact bn) | (apply RWu; exact rfl; exact rfl; exact rfl; exact rfl) | (apply RW_same; exact rfl; exact gk; exact op1) | (apply RW_box; exact rfl; exact gk; (first | exact T_alloc | exact T_boxA rfl | exact T_box1 rfl rfl); intro _) | (apply RW_st; exact gk; exact st1))
  have hsub : ∀ p ∈ hs, p ∈ (br, box 31 [.int .i64 0, .int .i64 0, .int .i64 0, .slice none 0 0, .slice none 0 0]) :: (hs ++ F) := fun p hp => List.Mem.tail _ (List.mem_append_left _ hp)
  obtain ⟨g4, g5⟩ := g3 _ hsub
  refine RW_same rfl (by exact gk) (T_load rfl (At.own (T := 87) (hsub _ g1) rfl)) ?_
  repeat (first | apply CW_seq | apply CW_region | apply RW_nil | apply thenQ_normal | apply thenQ_ret | apply thenQ_exit | apply blockQ_normal | apply blockQ_ret | apply blockQ_exit | (apply Xn; exact rfl) | apply CW_skip | apply CW_ret | apply CW_exit | apply CW_block | (apply CW_cf; exact rfl; exact bf) | (apply CW_ct; exact rfl; exact bt) | (apply RW_no; exact rfl; exact rfl; exact rfl; exact rfl; exact bn) | (apply RWu; exact rfl; exact rfl; exact rfl; exact rfl) | (apply RW_same; exact rfl; exact gk; exact op1) | (apply RW_box; exact rfl; exact gk; (first | exact T_alloc | exact T_boxA rfl | exact T_box1 rfl rfl); intro _) | (apply RW_st; exact gk; exact st1))
  refine RW_same rfl (by exact gk) (T_indexAddr rfl rfl (by omega)) ?_
  refine RW_same rfl (by exact gk) (T_load rfl (v := .pointer (some ⟨pg, 0, none⟩)) ?_) ?_
  · have : ((k : Int) / 8).toNat = k / 8 := by omega
    rw [this]; simpa using g4
  repeat (first | apply CW_seq | apply CW_region | apply RW_nil | apply thenQ_normal | apply thenQ_ret | apply thenQ_exit | apply blockQ_normal | apply blockQ_ret | apply blockQ_exit | (apply Xn; exact rfl) | apply CW_skip | apply CW_ret | apply CW_exit | apply CW_block | (apply CW_cf; exact rfl; exact bf) | (apply CW_ct; exact rfl; exact bt) | (apply RW_no; exact rfl; exact rfl; exact rfl; exact rfl; exact bn) | (apply RWu; exact rfl; exact rfl; exact rfl; exact rfl) | (apply RW_same; exact rfl; exact gk; exact op1) | (apply RW_box; exact rfl; exact gk; (first | exact T_alloc | exact T_boxA rfl | exact T_box1 rfl rfl); intro _) | (apply RW_st; exact gk; exact st1))
  refine RW_same rfl (by exact gk) (T_load rfl (At.own (T := 90) (hsub _ g2) rfl)) ?_
  repeat (first | apply CW_seq | apply CW_region | apply RW_nil | apply thenQ_normal | apply thenQ_ret | apply thenQ_exit | apply blockQ_normal | apply blockQ_ret | apply blockQ_exit | (apply Xn; exact rfl) | apply CW_skip | apply CW_ret | apply CW_exit | apply CW_block | (apply CW_cf; exact rfl; exact bf) | (apply CW_ct; exact rfl; exact bt) | (apply RW_no; exact rfl; exact rfl; exact rfl; exact rfl; exact bn) | (apply RWu; exact rfl; exact rfl; exact rfl; exact rfl) | (apply RW_same; exact rfl; exact gk; exact op1) | (apply RW_box; exact rfl; exact gk; (first | exact T_alloc | exact T_boxA rfl | exact T_box1 rfl rfl); intro _) | (apply RW_st; exact gk; exact st1))
  refine RW_same rfl (by exact gk) (T_indexAddr rfl rfl (by omega)) ?_
  refine RW_same rfl (by exact gk) (T_loadA (l := [.int .i64 cells[k].kind, .int .i64 cells[k].a, .int .i64 cells[k].b, kv, vv]) rfl ?_ rfl) ?_
  · have : ((k : Int) % 8).toNat = k % 8 := by omega
    rw [this, Nat.zero_add]; exact g5
  refine RW_call rfl (by exact gk) rfl (own_cell hkv hvv hsm.1 hsm.2) ?_
  rintro _ _ _ _ ⟨kv', vv', h1, h2, rfl, hc1, hc2, rfl, rfl⟩
  obtain ⟨a1, p1, rfl, hp1, ho1⟩ := hc1
  obtain ⟨a2, p2, rfl, hp2, ho2⟩ := hc2
  repeat (first | apply CW_seq | apply CW_region | apply RW_nil | apply thenQ_normal | apply thenQ_ret | apply thenQ_exit | apply blockQ_normal | apply blockQ_ret | apply blockQ_exit | (apply Xn; exact rfl) | apply CW_skip | apply CW_ret | apply CW_exit | apply CW_block | (apply CW_cf; exact rfl; exact bf) | (apply CW_ct; exact rfl; exact bt) | (apply RW_no; exact rfl; exact rfl; exact rfl; exact rfl; exact bn) | (apply RWu; exact rfl; exact rfl; exact rfl; exact rfl) | (apply RW_same; exact rfl; exact gk; exact op1) | (apply RW_box; exact rfl; exact gk; (first | exact T_alloc | exact T_boxA rfl | exact T_box1 rfl rfl); intro _) | (apply RW_st; exact gk; exact st1))
  first | refine rR (h2 ++ (h1 ++ (hs ++ F))) (h := ?_) | refine rN (h2 ++ (h1 ++ (hs ++ F))) (h := ?_)
  exact ⟨_, _, h1, h2, rfl, ⟨_, _, rfl, hp1, ho1⟩, ⟨_, _, rfl, hp2, ho2⟩, rfl, rfl⟩

theorem book_Get_no {bk : Nat} {i x : Int} {m : Mem} {H : Hp} (h : At m H bk 2 (.int .i64 x)) (hi : ¬ (0 ≤ i ∧ i < x)) :
    FnR Tryd.prog 53 #[.pointer (some ⟨bk, 0, none⟩), .int .i64 i] m H fun v m' H' =>
      v = .tuple #[.agg #[.int .i64 0, .int .i64 0, .int .i64 0, .slice none 0 0, .slice none 0 0], .int .i64 2] ∧ m = m' ∧ H' = H := by
  refine FnR.enter Tryd.func53 rfl Tryd.ntmps53 rfl fun s => ?_
  repeat (first | apply CW_seq | apply CW_region | apply RW_nil | apply thenQ_normal | apply thenQ_ret | apply thenQ_exit | apply blockQ_normal | apply blockQ_ret | apply blockQ_exit | (apply Xn; exact rfl) | apply CW_skip | apply CW_ret | apply CW_exit | apply CW_block | (apply CW_cf; exact rfl; exact bf) | (apply CW_ct; exact rfl; exact bt) | (apply RW_no; exact rfl; exact rfl; exact rfl; exact rfl; exact bn) | (apply RWu; exact rfl; exact rfl; exact rfl; exact rfl) | (apply RW_same; exact rfl; exact gk; exact op1) | (apply RW_box; exact rfl; exact gk; (first | exact T_alloc | exact T_boxA rfl | exact T_box1 rfl rfl); intro _) | (apply RW_st; exact gk; exact st1))
  refine RW_call rfl (by exact gk) rfl (book_has h.cons) ?_
  rintro _ _ _ _ ⟨rfl, rfl, rfl⟩
  repeat (first | apply CW_seq | apply CW_region | apply RW_nil | apply thenQ_normal | apply thenQ_ret | apply thenQ_exit | apply blockQ_normal | apply blockQ_ret | apply blockQ_exit | (apply Xn; exact rfl) | apply CW_skip | apply CW_ret | apply CW_exit | apply CW_block | (apply CW_cf; exact rfl; exact bf) | (apply CW_ct; exact rfl; exact bt) | (apply RW_no; exact rfl; exact rfl; exact rfl; exact rfl; exact bn) | (apply RWu; exact rfl; exact rfl; exact rfl; exact rfl) | (apply RW_same; exact rfl; exact gk; exact op1) | (apply RW_box; exact rfl; exact gk; (first | exact T_alloc | exact T_boxA rfl | exact T_box1 rfl rfl); intro _) | (apply RW_st; exact gk; exact st1))
  refine CW_cond_ndec rfl (fun h => ?_) (fun h => ?_)
  · repeat (first | apply CW_seq | apply CW_region | apply RW_nil | apply thenQ_normal | apply thenQ_ret | apply thenQ_exit | apply blockQ_normal | apply blockQ_ret | apply blockQ_exit | (apply Xn; exact rfl) | apply CW_skip | apply CW_ret | apply CW_exit | apply CW_block | (apply CW_cf; exact rfl; exact bf) | (apply CW_ct; exact rfl; exact bt) | (apply RW_no; exact rfl; exact rfl; exact rfl; exact rfl; exact bn) | (apply RWu; exact rfl; exact rfl; exact rfl; exact rfl) | (apply RW_same; exact rfl; exact gk; exact op1) | (apply RW_box; exact rfl; exact gk; (first | exact T_alloc | exact T_boxA rfl | exact T_box1 rfl rfl); intro _) | (apply RW_st; exact gk; exact st1))
    first | refine rR (H) (h := ?_) | refine rN (H) (h := ?_)
    exact ⟨rfl, rfl, rfl⟩
  · omega
end Go.Proofs.YtbhpofplencjgaaDoor
