/- The book's functions that write. Conditions: none. -/
import Derived.Test.YtbhpofplencjgaaDoorP3
namespace Go.Proofs.YtbhpofplencjgaaDoor
open Go Go.WL
set_option linter.unusedSimpArgs false
set_option linter.unusedVariables false
attribute [local irreducible] OpP OpT RW CW AW FnR FnP BinR At thenQ blockQ bodyQ

theorem set_take_drop {α : Type} (l : List α) (i : Nat) (x : α) (k : Nat) : ((l.set i x).drop (8 * k)).take 8 = if i / 8 = k then ((l.drop (8 * k)).take 8).set (i % 8) x else (l.drop (8 * k)).take 8 := by
  apply List.ext_getElem?
  intro j
  split
  · rename_i h
    rw [List.getElem?_set, List.getElem?_take, List.getElem?_take, List.getElem?_drop, List.getElem?_drop, List.getElem?_set, List.length_take, List.length_drop]
    by_cases hj : j < 8
    · simp only [hj, if_true]
      by_cases e : i = 8 * k + j
      · have : i % 8 = j := by omega
        simp only [e, if_true]
        by_cases hl : 8 * k + j < l.length
        · rw [if_pos hl]; rw [if_pos (by omega)]; rw [if_pos (by omega)]
        · rw [if_neg hl, if_pos (by omega), if_neg (by omega)]
      · have : ¬ i % 8 = j := by omega
        simp [e, this]
    · simp only [hj, if_false]
      have : ¬ i % 8 = j := by omega
      simp [this]
  · rename_i h
    rw [List.getElem?_take, List.getElem?_take, List.getElem?_drop, List.getElem?_drop, List.getElem?_set]
    by_cases hj : j < 8
    · have : ¬ i = 8 * k + j := by omega
      simp [hj, this]
    · simp [hj]

theorem chunk8_set {α : Type} (l : List α) (i : Nat) (x : α) (h : i / 8 < (chunk8 l).length) : chunk8 (l.set i x) = (chunk8 l).set (i / 8) ((chunk8 l)[i / 8].set (i % 8) x) := by
  symm
  apply chunk8_ext
  · simp [chunk8_len]
  · intro k hk
    rw [set_take_drop, List.getElem_set]
    split
    · rename_i e; rw [chunk8_get]; subst e; rfl
    · rw [chunk8_get]

/-- where a cell of a book is, to be set -/
theorem BookAt.acc {m bk cells hs} (h : BookAt m bk cells hs) (i : Nat) (hi : i < cells.length) : ∃ pb np pc pg lb n cap cur fam,
    i / 8 < np ∧ i % 8 < n ∧
    (bk, box 87 [fam, .slice (some ⟨pb, 0, none⟩) np pc, .int .i64 cells.length, .bool false]) ∈ hs ∧
    (pg, box 90 [.slice (some ⟨lb, 0, none⟩) n cap, .int .i64 1]) ∈ hs ∧
    (∀ H, (∀ p ∈ hs, p ∈ H) → At m H pb (i / 8) (.pointer (some ⟨pg, 0, none⟩))) ∧ (i % 8 + 1) * 5 ≤ cur.length ∧
    ∀ m' (c : Cel) cs, Mem.le m m' → Rep.cells m' c cs → Small c → ∃ hs', Upd lb (box 31 cur) (box 31 (setP cur (i % 8 * 5) cs)) hs hs' ∧ BookAt m' bk (cells.set i c) hs' := by
  obtain ⟨h1, h2, fam, a, cap, ps, hp, hq, e, h3, h4⟩ := h
  have hl := h4.len
  rw [chunk8_len] at hl
  have hk : i / 8 < ps.length := by omega
  have hk' : i / 8 < (chunk8 cells).length := by rw [chunk8_len]; omega
  obtain ⟨b, cur, cs0, e1, e2, h5, _, h6⟩ := h3.at (i / 8) hk
  have hpg : (chunk8 cells)[i / 8] = (cells.drop (8 * (i / 8))).take 8 := chunk8_get cells _ hk'
  have hlt : i % 8 < ((chunk8 cells)[i / 8]).length := by rw [hpg, List.length_take, List.length_drop]; omega
  obtain ⟨lb, cur2, cap2, h7, h8, h9⟩ := h4.set (i / 8) hk hk' (i % 8) hlt
  subst e1; subst e2
  refine ⟨b, ps.length, cap, ps[i / 8].b, lb, _, cap2, cur2, _, hk, hlt, by rw [e]; simp; exact .inl rfl, by rw [e]; simp [h7], fun H hH => ?_, h8, fun m' c cs hle hc hsm => ?_⟩
  · have := h6 H (hH _ (by rw [e]; simp))
    subst h5
    have := this 0 _ rfl
    simpa [Rep.sz] using this
  · obtain ⟨h', h10, h11⟩ := h9 m' c cs hle hc
    refine ⟨_, by rw [e]; exact .tail (.tail (.app h10)), ⟨by simpa using h1, fun x hx => ?_, _, _, _, ps, _, _, by rw [List.length_set], h3.mono hle, ?_⟩⟩
    · rcases List.mem_or_eq_of_mem_set hx with hx | rfl
      · exact h2 x hx
      · exact hsm
    · rw [chunk8_set cells i c hk']; exact h11

theorem book_Set {bk : Nat} {i : Int} {m : Mem} {hs F : Hp} {cells : List Cel} {c : Cel} {kv vv : Value} (hb : BookAt m bk cells hs) (hi : 0 ≤ i ∧ i < cells.length) (hkv : SlV m kv c.keys) (hvv : SlV m vv c.vals) (hsm : Small c) :
    FnR Tryd.prog 51 #[.pointer (some ⟨bk, 0, none⟩), .int .i64 i, .agg #[.int .i64 c.kind, .int .i64 c.a, .int .i64 c.b, kv, vv]] m (hs ++ F) fun v m' H' => ∃ hs',
      v = .int .i64 0 ∧ BookAt m' bk (cells.set i.toNat c) hs' ∧ H' = hs' ++ F := by
  obtain ⟨k, rfl⟩ := Int.eq_ofNat_of_zero_le hi.1
  have hk : k < cells.length := by omega
  have hn := hb.n
  simp only [Int.toNat_natCast]
  obtain ⟨pb, np, pc, pg, lb, n, cap, cur, fam, hq, hr, g1, g2, g3, g4, g5⟩ := hb.acc k hk
  refine FnR.enter Tryd.func51 rfl Tryd.ntmps51 rfl fun s => ?_
  repeat (first | apply CW_seq | apply CW_region | apply RW_nil | apply thenQ_normal | apply thenQ_ret | apply thenQ_exit | apply blockQ_normal | apply blockQ_ret | apply blockQ_exit | (apply Xn; exact rfl) | apply CW_skip | apply CW_ret | apply CW_exit | apply CW_block | (apply CW_cf; exact rfl; exact bf) | (apply CW_ct; exact rfl; exact bt) | (apply RW_no; exact rfl; exact rfl; exact rfl; exact rfl; exact bn) | (apply RWu; exact rfl; exact rfl; exact rfl; exact rfl) | (apply RW_same; exact rfl; exact gk; exact op1) | (apply RW_box; exact rfl; exact gk; (first | exact T_alloc | exact T_boxA rfl | exact T_box1 rfl rfl); intro _) | (apply RW_st; exact gk; exact st1))
  rename_i bx
  refine RW_call rfl (by exact gk) rfl (book_has (At.own (T := 87) (List.Mem.tail _ (List.mem_append_left _ g1)) rfl)) ?_
  rintro _ _ _ _ ⟨rfl, rfl, rfl⟩
  repeat (first | apply CW_seq | apply CW_region | apply RW_nil | apply thenQ_normal | apply thenQ_ret | apply thenQ_exit | apply blockQ_normal | apply blockQ_ret | apply blockQ_exit | (apply Xn; exact rfl) | apply CW_skip | apply CW_ret | apply CW_exit | apply CW_block | (apply CW_cf; exact rfl; exact bf) | (apply CW_ct; exact rfl; exact bt) | (apply RW_no; exact rfl; exact rfl; exact rfl; exact rfl; exact bn) | (apply RWu; exact rfl; exact rfl; exact rfl; exact rfl) | (apply RW_same; exact rfl; exact gk; exact op1) | (apply RW_box; exact rfl; exact gk; (first | exact T_alloc | exact T_boxA rfl | exact T_box1 rfl rfl); intro _) | (apply RW_st; exact gk; exact st1))
  refine CW_cond_ndec rfl (fun h => ?_) (fun h => ?_)
  · omega
  repeat (first | apply CW_seq | apply CW_region | apply RW_nil | apply thenQ_normal | apply thenQ_ret | apply thenQ_exit | apply blockQ_normal | apply blockQ_ret | apply blockQ_exit | (apply Xn; exact rfl) | apply CW_skip | apply CW_ret | apply CW_exit | apply CW_block | (apply CW_cf; exact rfl; exact bf) | (apply CW_ct; exact rfl; exact bt) | (apply RW_no; exact rfl; exact rfl; exact rfl; exact rfl; exact bn) | (apply RWu; exact rfl; exact rfl; exact rfl; exact rfl) | (apply RW_same; exact rfl; exact gk; exact op1) | (apply RW_box; exact rfl; exact gk; (first | exact T_alloc | exact T_boxA rfl | exact T_box1 rfl rfl); intro _) | (apply RW_st; exact gk; exact st1))
  have hd : ((k : Int) / 8) = ((k / 8 : Nat) : Int) := by omega
  have hm8 : ((k : Int) % 8).toNat = k % 8 := by omega
  refine CW_draw (fun m' H' => (bx, box 31 [.int .i64 c.kind, .int .i64 c.a, .int .i64 c.b, kv, vv]) ∈ H' ∧ (pg, box 90 [.slice (some ⟨lb, 0, none⟩) n cap, .int .i64 1]) ∈ H') 12 13 rfl (by kernel_rfl) ?_
  refine AW_take (i := 0) [12] rfl rfl rfl (by exact gk) (by kernel_rfl) (fun m' H' hSt => T_move rfl) ?_
  refine AW_take (i := 1) [12] rfl rfl rfl (by exact gk) (by kernel_rfl) (fun m' H' hSt => T_move rfl) ?_
  refine AW_take (i := 2) [12] rfl rfl rfl (by exact gk) (by kernel_rfl) (fun m' H' hSt => T_bin rfl rfl (BinR.quo (by omega) (by omega) (by omega))) ?_
  refine AW_take (i := 7) [12] rfl rfl rfl (by exact gk) (by kernel_rfl) (fun m' H' hSt => T_move rfl) ?_
  refine AW_take (i := 8) [12] rfl rfl rfl (by exact gk) (by kernel_rfl) (fun m' H' hSt => T_bin rfl rfl (BinR.rem (by omega) (by omega))) ?_
  refine AW_take (i := 9) [12] rfl rfl rfl (by exact gk) (by kernel_rfl) (fun m' H' hSt => T_loadA rfl (Ats.own hSt.1) rfl) ?_
  rw [hd]
  have hsub : ∀ p ∈ hs, p ∈ (bx, box 31 [.int .i64 c.kind, .int .i64 c.a, .int .i64 c.b, kv, vv]) :: (hs ++ F) := fun p hp => List.Mem.tail _ (List.mem_append_left _ hp)
  refine AW_call (i := 3) (by kernel_rfl) (fun _ => ⟨List.Mem.head _, hsub _ g2⟩) rfl (by exact gk) rfl rfl (T_call rfl (book_mine (At.own (T := 87) (hsub _ g1) rfl) hq (g3 _ hsub) (At.own (T := 90) (hsub _ g2) rfl))) ?_
  rintro _ _ _ _ ⟨rfl, rfl, rfl⟩
  refine AW_take (i := 4) [12] rfl rfl rfl (by exact gk) (by kernel_rfl) (fun m' H' hSt => T_nilCheck rfl) ?_
  refine AW_take (i := 5) [12] rfl rfl rfl (by exact gk) (by kernel_rfl) (fun m' H' hSt => T_fieldAddr rfl) ?_
  refine AW_take (i := 6) [12] rfl rfl rfl (by exact gk) (by kernel_rfl) (fun m' H' hSt => T_load rfl (At.own hSt.2 rfl)) ?_
  refine AW_call (i := 10) (by kernel_rfl) (fun _ => ⟨List.Mem.head _, hsub _ g2⟩) rfl (by exact gk) rfl rfl (T_call rfl (own_cell hkv hvv hsm.1 hsm.2)) ?_
  rintro _ _ _ _ ⟨kv', vv', h1, h2, rfl, ⟨a1, p1, rfl, hp1, ho1⟩, ⟨a2, p2, rfl, hp2, ho2⟩, rfl, rfl⟩
  refine AW.freeze ho2 (.refl _) fun m1 hle1 hs2 => ?_
  refine AW.freeze (ho1.mono hle1) (.refl _) fun m2 hle2 hs1 => ?_
  refine AW_same (i := 11) (by kernel_rfl) (fun _ => ⟨List.Mem.head _, hsub _ g2⟩) rfl (by exact gk) rfl rfl (T_indexAddr rfl rfl (by omega)) ?_
  have hc : Rep.cells m2 c [.int .i64 c.kind, .int .i64 c.a, .int .i64 c.b, .slice a1 c.keys.length p1, .slice a2 c.vals.length p2] :=
    ⟨_, _, rfl, ⟨_, _, rfl, hp1, hs1⟩, ⟨_, _, rfl, hp2, hs2.mono hle2⟩⟩
  obtain ⟨hs', hu, hb'⟩ := g5 m2 c _ (hle1.trans hle2) hc hsm
  rw [hm8]
  refine AW_st (i := 12) (by kernel_rfl) (fun _ => ⟨List.Mem.head _, hsub _ g2⟩) rfl (by exact gk) rfl (T_storeP (l := cur) rfl rfl rfl rfl (by simp only [List.length_cons, List.length_nil]; omega) (by rw [Nat.zero_add]; exact .tail (.appL hu))) ?_
  refine AW_done (by kernel_rfl) (fun h => by cases h) ?_
  repeat (first | apply CW_seq | apply CW_region | apply RW_nil | apply thenQ_normal | apply thenQ_ret | apply thenQ_exit | apply blockQ_normal | apply blockQ_ret | apply blockQ_exit | (apply Xn; exact rfl) | apply CW_skip | apply CW_ret | apply CW_exit | apply CW_block | (apply CW_cf; exact rfl; exact bf) | (apply CW_ct; exact rfl; exact bt) | (apply RW_no; exact rfl; exact rfl; exact rfl; exact rfl; exact bn) | (apply RWu; exact rfl; exact rfl; exact rfl; exact rfl) | (apply RW_same; exact rfl; exact gk; exact op1) | (apply RW_box; exact rfl; exact gk; (first | exact T_alloc | exact T_boxA rfl | exact T_box1 rfl rfl); intro _) | (apply RW_st; exact gk; exact st1))
  first | refine rR (hs' ++ F) (h := ?_) | refine rN (hs' ++ F) (h := ?_)
  exact ⟨hs', rfl, hb', rfl⟩

theorem book_Set_no {bk : Nat} {i x : Int} {m : Mem} {H : Hp} {c : Cel} {kv vv : Value} (h : At m H bk 2 (.int .i64 x)) (hi : ¬ (0 ≤ i ∧ i < x)) :
    FnR Tryd.prog 51 #[.pointer (some ⟨bk, 0, none⟩), .int .i64 i, .agg #[.int .i64 c.kind, .int .i64 c.a, .int .i64 c.b, kv, vv]] m H fun v m' H' => v = .int .i64 2 ∧ m = m' ∧ H' = H := by
  refine FnR.enter Tryd.func51 rfl Tryd.ntmps51 rfl fun s => ?_
  repeat (first | apply CW_seq | apply CW_region | apply RW_nil | apply thenQ_normal | apply thenQ_ret | apply thenQ_exit | apply blockQ_normal | apply blockQ_ret | apply blockQ_exit | (apply Xn; exact rfl) | apply CW_skip | apply CW_ret | apply CW_exit | apply CW_block | (apply CW_cf; exact rfl; exact bf) | (apply CW_ct; exact rfl; exact bt) | (apply RW_no; exact rfl; exact rfl; exact rfl; exact rfl; exact bn) | (apply RWu; exact rfl; exact rfl; exact rfl; exact rfl) | (apply RW_same; exact rfl; exact gk; exact op1) | (apply RW_box; exact rfl; exact gk; (first | exact T_alloc | exact T_boxA rfl | exact T_box1 rfl rfl); intro _) | (apply RW_st; exact gk; exact st1))
  refine RW_call rfl (by exact gk) rfl (book_has h.cons) ?_
  rintro _ _ _ _ ⟨rfl, rfl, rfl⟩
  repeat (first | apply CW_seq | apply CW_region | apply RW_nil | apply thenQ_normal | apply thenQ_ret | apply thenQ_exit | apply blockQ_normal | apply blockQ_ret | apply blockQ_exit | (apply Xn; exact rfl) | apply CW_skip | apply CW_ret | apply CW_exit | apply CW_block | (apply CW_cf; exact rfl; exact bf) | (apply CW_ct; exact rfl; exact bt) | (apply RW_no; exact rfl; exact rfl; exact rfl; exact rfl; exact bn) | (apply RWu; exact rfl; exact rfl; exact rfl; exact rfl) | (apply RW_same; exact rfl; exact gk; exact op1) | (apply RW_box; exact rfl; exact gk; (first | exact T_alloc | exact T_boxA rfl | exact T_box1 rfl rfl); intro _) | (apply RW_st; exact gk; exact st1))
  refine CW_cond_ndec rfl (fun h => ?_) (fun h => ?_)
  · repeat (first | apply CW_seq | apply CW_region | apply RW_nil | apply thenQ_normal | apply thenQ_ret | apply thenQ_exit | apply blockQ_normal | apply blockQ_ret | apply blockQ_exit | (apply Xn; exact rfl) | apply CW_skip | apply CW_ret | apply CW_exit | apply CW_block | (apply CW_cf; exact rfl; exact bf) | (apply CW_ct; exact rfl; exact bt) | (apply RW_no; exact rfl; exact rfl; exact rfl; exact rfl; exact bn) | (apply RWu; exact rfl; exact rfl; exact rfl; exact rfl) | (apply RW_same; exact rfl; exact gk; exact op1) | (apply RW_box; exact rfl; exact gk; (first | exact T_alloc | exact T_boxA rfl | exact T_box1 rfl rfl); intro _) | (apply RW_st; exact gk; exact st1))
    first | refine rR (H) (h := ?_) | refine rN (H) (h := ?_)
    exact ⟨rfl, rfl, rfl⟩
  · omega
end Go.Proofs.YtbhpofplencjgaaDoor
