/- A book made; a cell added. Conditions: none. -/
import Derived.Test.YtbhpofplencjgaaDoorP4
namespace Go.Proofs.YtbhpofplencjgaaDoor
open Go Go.WL
set_option linter.unusedSimpArgs false
set_option linter.unusedVariables false
attribute [local irreducible] OpP OpT RW CW AW FnR FnP BinR At thenQ blockQ bodyQ

/-- the pages with room for one more -/
def room8 {α : Type} (l : List α) : List (List α) := if l.length % 8 = 0 then chunk8 l ++ [[]] else chunk8 l

theorem room8_len {α : Type} (l : List α) : (room8 l).length = l.length / 8 + 1 := by
  unfold room8
  split
  · rw [List.length_append, chunk8_len]; simp; omega
  · rw [chunk8_len]; omega

theorem room8_get {α : Type} (l : List α) (k : Nat) (hk : k < (room8 l).length) : (room8 l)[k] = (l.drop (8 * k)).take 8 := by
  have hl := room8_len l
  by_cases h : l.length % 8 = 0
  · have e : room8 l = chunk8 l ++ [[]] := by unfold room8; rw [if_pos h]
    simp only [e, List.getElem_append]
    split
    · rw [chunk8_get]
    · rename_i h2
      rw [chunk8_len] at h2
      rw [List.drop_of_length_le (by omega)]
      simp
  · have e : room8 l = chunk8 l := by unfold room8; rw [if_neg h]
    simp only [e]
    rw [chunk8_get]

theorem chunk8_add {α : Type} (l : List α) (x : α) (h : l.length / 8 < (room8 l).length) : (room8 l).set (l.length / 8) ((room8 l)[l.length / 8] ++ [x]) = chunk8 (l ++ [x]) := by
  apply chunk8_ext
  · rw [List.length_set, room8_len, List.length_append, List.length_singleton]; omega
  · intro k hk
    rw [List.length_set] at hk
    rw [List.getElem_set]
    have hl := room8_len l
    split
    · rename_i e
      rw [room8_get]
      subst e
      have h1 : 8 * (l.length / 8) ≤ l.length := by omega
      rw [List.drop_append_of_le_length h1, List.take_of_length_le (by rw [List.length_drop]; omega), List.take_of_length_le (by rw [List.length_append, List.length_drop, List.length_singleton]; omega)]
    · rename_i e
      rw [room8_get]
      have h1 : 8 * k + 8 ≤ l.length := by omega
      rw [List.drop_append_of_le_length (by omega), List.take_append_of_le_length (by rw [List.length_drop]; omega)]

theorem room8_last {α : Type} (l : List α) (h : l.length / 8 < (room8 l).length) : ((room8 l)[l.length / 8]).length = l.length % 8 := by
  rw [room8_get, List.length_take, List.length_drop]; omega

theorem PagesAt.push {m ps pgs hs} (h : PagesAt m ps pgs hs) (p : PgP) : PagesAt m (ps ++ [p]) (pgs ++ [[]]) (hs ++ [(p.b, box 90 [.slice none 0 0, .int .i64 1])]) := by
  induction h with
  | nil => exact PagesAt.cons (pg := []) (hs := []) OwnT.nil .nil
  | cons h hr ih =>
    rw [List.cons_append, List.cons_append, List.cons_append, List.append_assoc]
    exact .cons h ih

/-- one page taken out -/
theorem PagesAt.take {m ps pgs hs} (h : PagesAt m ps pgs hs) : ∀ (k : Nat) (hk : k < ps.length) (hk' : k < pgs.length),
    ∃ a cap h1 R, hs.Perm ((ps[k].b, box 90 [.slice a pgs[k].length cap, .int .i64 1]) :: (h1 ++ R)) ∧ OwnT 31 m a pgs[k].length cap pgs[k] h1 ∧
      ∀ m' a' cap' new h1', Mem.le m m' → OwnT 31 m' a' (List.length new) cap' new h1' →
        ∃ h', PagesAt m' ps (pgs.set k new) h' ∧ h'.Perm ((ps[k].b, box 90 [.slice a' new.length cap', .int .i64 1]) :: (h1' ++ R)) := by
  induction h with
  | nil => intro k hk; simp at hk
  | @cons p pg a cap hs ps pgs hs' h hr ih =>
    intro k hk hk'
    cases k with
    | zero => exact ⟨a, cap, hs, hs', .refl _, h, fun m' a' cap' new h1' hle ho => ⟨_, .cons ho (hr.mono hle), .refl _⟩⟩
    | succ k =>
      obtain ⟨a', cap', h1, R, h2, h3, h4⟩ := ih k (by simpa using hk) (by simpa using hk')
      refine ⟨a', cap', h1, (p.b, box 90 [.slice a pg.length cap, .int .i64 1]) :: (hs ++ R), ?_, h3, fun m' a1 c1 new h1' hle ho => ?_⟩
      · refine ((h2.append_left hs).cons _).trans ?_
        exact pm
      · obtain ⟨h', h5, h6⟩ := h4 m' a1 c1 new h1' hle ho
        refine ⟨_, .cons (h.mono hle) h5, ?_⟩
        refine ((h6.append_left hs).cons _).trans ?_
        exact pm

theorem pages_New {m : Mem} {F : Hp} : FnR Tryd.prog 22 #[] m F fun v m' H' => ∃ bk hs, v = .pointer (some ⟨bk, 0, none⟩) ∧ BookAt m bk [] hs ∧ m = m' ∧ H' = hs ++ F := by
  refine FnR.enter Tryd.func22 rfl Tryd.ntmps22 rfl fun s => ?_
  repeat (first | apply CW_seq | apply CW_region | apply RW_nil | apply thenQ_normal | apply thenQ_ret | apply thenQ_exit | apply blockQ_normal | apply blockQ_ret | apply blockQ_exit | (apply Xn; exact rfl) | apply CW_skip | apply CW_ret | apply CW_exit | apply CW_block | (apply CW_cf; exact rfl; exact bf) | (apply CW_ct; exact rfl; exact bt) | (apply RW_no; exact rfl; exact rfl; exact rfl; exact rfl; exact bn) | (apply RWu; exact rfl; exact rfl; exact rfl; exact rfl) | (apply RW_same; exact rfl; exact gk; exact op1) | (apply RW_box; exact rfl; exact gk; (first | exact T_alloc | exact T_boxA rfl | exact T_box1 rfl rfl); intro _) | (apply RW_st; exact gk; exact st1))
  rename_i fam bk
  first | refine rR _ (hs := List.Sublist.refl _) (h := ?_) | refine rN _ (hs := List.Sublist.refl _) (h := ?_)
  exact ⟨bk, [(bk, _), (fam, _)], rfl, ⟨by simp, by simp, fam, none, 0, [], [], [], rfl, OwnT.nil, by rw [chunk8_nil]; exact .nil⟩, rfl, rfl⟩

set_option maxHeartbeats 2000000 in
theorem book_Add {bk : Nat} {m : Mem} {hs F : Hp} {cells : List Cel} {c : Cel} {kv vv : Value} (hb : BookAt m bk cells hs) (hn : cells.length < 4096) (hkv : SlV m kv c.keys) (hvv : SlV m vv c.vals) (hsm : Small c) :
    FnR Tryd.prog 24 #[.pointer (some ⟨bk, 0, none⟩), .agg #[.int .i64 c.kind, .int .i64 c.a, .int .i64 c.b, kv, vv]] m (hs ++ F) fun v m' H' => ∃ hs',
      v = .tuple #[.int .i64 cells.length, .int .i64 0] ∧ BookAt m' bk (cells ++ [c]) hs' ∧ H' = hs' ++ F := by
  obtain ⟨_, hsm0, fam, a, cap, ps, hp, hq, rfl, h3, h4⟩ := hb
  simp only [List.append_assoc, List.cons_append, List.nil_append, List.append_nil]
  refine FnR.enter Tryd.func24 rfl Tryd.ntmps24 rfl fun s => ?_
  repeat (first | apply CW_seq | apply CW_region | apply RW_nil | apply thenQ_normal | apply thenQ_ret | apply thenQ_exit | apply blockQ_normal | apply blockQ_ret | apply blockQ_exit | (apply Xn; exact rfl) | apply CW_skip | apply CW_ret | apply CW_exit | apply CW_block | (apply CW_cf; exact rfl; exact bf) | (apply CW_ct; exact rfl; exact bt) | (apply RW_no; exact rfl; exact rfl; exact rfl; exact rfl; exact bn) | (apply RWu; exact rfl; exact rfl; exact rfl; exact rfl) | (apply RW_same; exact rfl; exact gk; exact op1) | (apply RW_box; exact rfl; exact gk; (first | exact T_alloc | exact T_boxA rfl | exact T_box1 rfl rfl); intro _) | (apply RW_st; exact gk; exact st1))
  rename_i bx
  refine CW_cond_dec rfl (fun h => ?_) (fun h => ?_)
  · omega
  refine CW_skip ?_
  refine blockQ_normal ?_
  refine thenQ_normal ?_
  refine CW_cut (fun env' m' H' => ∃ a cap ps hp hq L, Env.sub [(0, .pointer (some ⟨bk, 0, none⟩)), (3, .pointer (some ⟨bx, 0, none⟩))] env' ∧ m = m' ∧
    H'.Perm (L ++ ((bx, box 31 [.int .i64 c.kind, .int .i64 c.a, .int .i64 c.b, kv, vv]) :: (bk, box 87 [.pointer (some ⟨fam, 0, none⟩), .slice a (List.length ps) cap, .int .i64 cells.length, .bool false]) :: (fam, box 84 [.int .i64 (List.length ps)]) :: (hp ++ (hq ++ F)))) ∧
    OwnT 88 m a ps.length cap ps hp ∧ PagesAt m ps (room8 cells) hq) ?_ ?_
  · repeat (first | apply CW_seq | apply CW_region | apply RW_nil | apply thenQ_normal | apply thenQ_ret | apply thenQ_exit | apply blockQ_normal | apply blockQ_ret | apply blockQ_exit | (apply Xn; exact rfl) | apply CW_skip | apply CW_ret | apply CW_exit | apply CW_block | (apply CW_cf; exact rfl; exact bf) | (apply CW_ct; exact rfl; exact bt) | (apply RW_no; exact rfl; exact rfl; exact rfl; exact rfl; exact bn) | (apply RWu; exact rfl; exact rfl; exact rfl; exact rfl) | (apply RW_same; exact rfl; exact gk; exact op1) | (apply RW_box; exact rfl; exact gk; (first | exact T_alloc | exact T_boxA rfl | exact T_box1 rfl rfl); intro _) | (apply RW_st; exact gk; exact st1))
    refine CW_cond_dec rfl (fun h => ?_) (fun h => ?_)
    · repeat (first | apply CW_seq | apply CW_region | apply RW_nil | apply thenQ_normal | apply thenQ_ret | apply thenQ_exit | apply blockQ_normal | apply blockQ_ret | apply blockQ_exit | (apply Xn; exact rfl) | apply CW_skip | apply CW_ret | apply CW_exit | apply CW_block | (apply CW_cf; exact rfl; exact bf) | (apply CW_ct; exact rfl; exact bt) | (apply RW_no; exact rfl; exact rfl; exact rfl; exact rfl; exact bn) | (apply RWu; exact rfl; exact rfl; exact rfl; exact rfl) | (apply RW_same; exact rfl; exact gk; exact op1) | (apply RW_box; exact rfl; exact gk; (first | exact T_alloc | exact T_boxA rfl | exact T_box1 rfl rfl); intro _) | (apply RW_st; exact gk; exact st1))
      rename_i pb
      refine RW_any rfl (by exact gk) (T_buildSlice (by rfl) (by decide) (by exact bd)) ?_
      rintro _ _ _ _ ⟨b2, rfl, rfl, rfl⟩
      obtain ⟨_, xs, hx1, hx2⟩ := h3
      have hpl := h4.len
      rw [chunk8_len] at hpl
      refine RW_any rfl (by exact gk) (T_append (news := [.pointer (some ⟨pb, 0, none⟩)]) (by rfl) rfl rfl hx2 (by repeat (first | exact pull_here | exact pull_end | apply pull_skip | apply pull_app)) (Ats.own (List.Mem.head _)) rfl rfl (by omega) (by omega)) ?_
      rintro _ _ _ _ ⟨a', cap', hp', rfl, hown, rfl, rfl⟩
      have h3' : OwnT 88 m a' (ps ++ [PgP.mk pb]).length cap' (ps ++ [PgP.mk pb]) hp' := ⟨rfl, _, hx1.append (RepL.single rfl), by simpa using hown⟩
      repeat (first | apply CW_seq | apply CW_region | apply RW_nil | apply thenQ_normal | apply thenQ_ret | apply thenQ_exit | apply blockQ_normal | apply blockQ_ret | apply blockQ_exit | (apply Xn; exact rfl) | apply CW_skip | apply CW_ret | apply CW_exit | apply CW_block | (apply CW_cf; exact rfl; exact bf) | (apply CW_ct; exact rfl; exact bt) | (apply RW_no; exact rfl; exact rfl; exact rfl; exact rfl; exact bn) | (apply RWu; exact rfl; exact rfl; exact rfl; exact rfl) | (apply RW_same; exact rfl; exact gk; exact op1) | (apply RW_box; exact rfl; exact gk; (first | exact T_alloc | exact T_boxA rfl | exact T_box1 rfl rfl); intro _) | (apply RW_st; exact gk; exact st1))
      refine ⟨a', cap', ps ++ [PgP.mk pb], hp', hq ++ [(pb, box 90 [.slice none 0 0, .int .i64 1])], [(b2, box 88 [.pointer (some ⟨pb, 0, none⟩)])], by exact sb, rfl, ?_, h3', ?_⟩
      · simp only [List.length_append, List.length_cons, List.length_nil, Nat.zero_add, Int.natCast_add, Int.natCast_one]
        exact pm
      · have : cells.length % 8 = 0 := by omega
        unfold room8
        rw [if_pos this]
        exact h4.push ⟨pb⟩
    · repeat (first | apply CW_seq | apply CW_region | apply RW_nil | apply thenQ_normal | apply thenQ_ret | apply thenQ_exit | apply blockQ_normal | apply blockQ_ret | apply blockQ_exit | (apply Xn; exact rfl) | apply CW_skip | apply CW_ret | apply CW_exit | apply CW_block | (apply CW_cf; exact rfl; exact bf) | (apply CW_ct; exact rfl; exact bt) | (apply RW_no; exact rfl; exact rfl; exact rfl; exact rfl; exact bn) | (apply RWu; exact rfl; exact rfl; exact rfl; exact rfl) | (apply RW_same; exact rfl; exact gk; exact op1) | (apply RW_box; exact rfl; exact gk; (first | exact T_alloc | exact T_boxA rfl | exact T_box1 rfl rfl); intro _) | (apply RW_st; exact gk; exact st1))
      refine ⟨a, cap, ps, hp, hq, [], by exact sb, rfl, .refl _, h3, ?_⟩
      have : ¬ cells.length % 8 = 0 := by omega
      unfold room8
      rw [if_neg this]
      exact h4
  · rintro env' _ H' ⟨a, cap, ps, hp, hq, L, hsub, rfl, hperm, h3, h4⟩
    refine CW.keep _ hsub ?_
    refine CW.drop hperm ?_
    have hpl := h4.len
    rw [room8_len] at hpl
    have hk : cells.length / 8 < ps.length := by omega
    have hk' : cells.length / 8 < (room8 cells).length := by rw [room8_len]; omega
    have hd : ((cells.length : Int) / 8) = ((cells.length / 8 : Nat) : Int) := by omega
    obtain ⟨pb, cur, cs0, rfl, rfl, h5, _, h6⟩ := h3.at _ hk
    subst h5
    have hx : ∀ H, (pb, box 88 cur) ∈ H → At m H pb (cells.length / 8) (.pointer (some ⟨ps[cells.length / 8].b, 0, none⟩)) := fun H hH => by simpa [Rep.sz] using h6 H hH 0 _ rfl
    obtain ⟨a1, cap1, h1, R, h7, h8, h9⟩ := h4.take _ hk hk'
    refine CW.perm (H := (bx, box 31 [.int .i64 c.kind, .int .i64 c.a, .int .i64 c.b, kv, vv]) :: (bk, box 87 [.pointer (some ⟨fam, 0, none⟩), .slice (some ⟨pb, 0, none⟩) (List.length ps) cap, .int .i64 cells.length, .bool false]) :: (fam, box 84 [.int .i64 (List.length ps)]) :: ([(pb, box 88 cur)] ++ (((ps[cells.length / 8].b, box 90 [.slice a1 (room8 cells)[cells.length / 8].length cap1, .int .i64 1]) :: (h1 ++ R)) ++ F))) ?_ ?_
    · exact (((h7.append_right F).append_left _).cons _).cons _ |>.cons _
    simp only [List.append_assoc, List.cons_append, List.nil_append, List.append_nil]
    repeat (first | apply CW_seq | apply CW_region | apply RW_nil | apply thenQ_normal | apply thenQ_ret | apply thenQ_exit | apply blockQ_normal | apply blockQ_ret | apply blockQ_exit | (apply Xn; exact rfl) | apply CW_skip | apply CW_ret | apply CW_exit | apply CW_block | (apply CW_cf; exact rfl; exact bf) | (apply CW_ct; exact rfl; exact bt) | (apply RW_no; exact rfl; exact rfl; exact rfl; exact rfl; exact bn) | (apply RWu; exact rfl; exact rfl; exact rfl; exact rfl) | (apply RW_same; exact rfl; exact gk; exact op1) | (apply RW_box; exact rfl; exact gk; (first | exact T_alloc | exact T_boxA rfl | exact T_box1 rfl rfl); intro _) | (apply RW_st; exact gk; exact st1))
    rw [hd]
    refine RW_call rfl (by exact gk) rfl (book_mine (pb := pb) (pg := ps[cells.length / 8].b) (At.own (T := 87) (by (repeat (first | exact List.Mem.head _ | apply List.Mem.tail | apply List.mem_append_right))) rfl) hk (hx _ (by (repeat (first | exact List.Mem.head _ | apply List.Mem.tail | apply List.mem_append_right)))) (At.own (T := 90) (by (repeat (first | exact List.Mem.head _ | apply List.Mem.tail | apply List.mem_append_right))) rfl)) ?_
    rintro _ _ _ _ ⟨rfl, rfl, rfl⟩
    repeat (first | apply CW_seq | apply CW_region | apply RW_nil | apply thenQ_normal | apply thenQ_ret | apply thenQ_exit | apply blockQ_normal | apply blockQ_ret | apply blockQ_exit | (apply Xn; exact rfl) | apply CW_skip | apply CW_ret | apply CW_exit | apply CW_block | (apply CW_cf; exact rfl; exact bf) | (apply CW_ct; exact rfl; exact bt) | (apply RW_no; exact rfl; exact rfl; exact rfl; exact rfl; exact bn) | (apply RWu; exact rfl; exact rfl; exact rfl; exact rfl) | (apply RW_same; exact rfl; exact gk; exact op1) | (apply RW_box; exact rfl; exact gk; (first | exact T_alloc | exact T_boxA rfl | exact T_box1 rfl rfl); intro _) | (apply RW_st; exact gk; exact st1))
    generalize hpg : ps[cells.length / 8].b = pg at *
    generalize hgg : (room8 cells)[cells.length / 8] = page at *
    refine CW_draw (fun m' H' => (bx, box 31 [.int .i64 c.kind, .int .i64 c.a, .int .i64 c.b, kv, vv]) ∈ H' ∧ (pg, box 90 [.slice a1 (List.length page) cap1, .int .i64 1]) ∈ H') 11 12 rfl (by kernel_rfl) ?_
    refine AW_take (i := 0) [11] rfl rfl rfl (by exact gk) (by kernel_rfl) (fun m' H' hSt => T_move rfl) ?_
    refine AW_take (i := 1) [11] rfl rfl rfl (by exact gk) (by kernel_rfl) (fun m' H' hSt => T_move rfl) ?_
    refine AW_take (i := 2) [11] rfl rfl rfl (by exact gk) (by kernel_rfl) (fun m' H' hSt => T_nilCheck rfl) ?_
    refine AW_take (i := 3) [11] rfl rfl rfl (by exact gk) (by kernel_rfl) (fun m' H' hSt => T_fieldAddr rfl) ?_
    refine AW_take (i := 4) [11] rfl rfl rfl (by exact gk) (by kernel_rfl) (fun m' H' hSt => T_load rfl (At.own hSt.2 rfl)) ?_
    refine AW_take (i := 5) [11] rfl rfl rfl (by exact gk) (by kernel_rfl) (fun m' H' hSt => T_loadA rfl (Ats.own hSt.1) rfl) ?_
    refine AW_call (i := 6) (by kernel_rfl) (fun _ => ⟨by (repeat (first | exact List.Mem.head _ | apply List.Mem.tail | apply List.mem_append_right)), by (repeat (first | exact List.Mem.head _ | apply List.Mem.tail | apply List.mem_append_right))⟩) rfl (by exact gk) rfl rfl (T_call rfl (own_cell hkv hvv hsm.1 hsm.2)) ?_
    rintro _ _ _ _ ⟨kv', vv', g1, g2, rfl, ⟨aa1, p1, rfl, hp1, ho1⟩, ⟨aa2, p2, rfl, hp2, ho2⟩, rfl, rfl⟩
    refine AW.freeze ho2 (.refl _) fun m1 hle1 hs2 => ?_
    refine AW.freeze (ho1.mono hle1) (.refl _) fun m2 hle2 hs1 => ?_
    have hc : Rep.cells m2 c [.int .i64 c.kind, .int .i64 c.a, .int .i64 c.b, .slice aa1 c.keys.length p1, .slice aa2 c.vals.length p2] :=
      ⟨_, _, rfl, ⟨_, _, rfl, hp1, hs1⟩, ⟨_, _, rfl, hp2, hs2.mono hle2⟩⟩
    refine AW_call (i := 7) (by kernel_rfl) (fun _ => ⟨by (repeat (first | exact List.Mem.head _ | apply List.Mem.tail | apply List.mem_append_right)), by (repeat (first | exact List.Mem.head _ | apply List.Mem.tail | apply List.mem_append_right))⟩) rfl (by exact gk) rfl rfl (T_buildSlice (by rfl) (by decide) (by exact bd)) ?_
    rintro _ _ _ _ ⟨b2, rfl, rfl, rfl⟩
    obtain ⟨_, xs, hx1, hx2⟩ := h8.mono (hle1.trans hle2)
    have hpl2 : page.length = cells.length % 8 := by rw [← hgg]; exact room8_last cells hk'
    refine AW_call (i := 8) (by kernel_rfl) (fun _ => ⟨by (repeat (first | exact List.Mem.head _ | apply List.Mem.tail | apply List.mem_append_right)), by (repeat (first | exact List.Mem.head _ | apply List.Mem.tail | apply List.mem_append_right))⟩) rfl (by exact gk) rfl rfl (T_append (news := [.int .i64 c.kind, .int .i64 c.a, .int .i64 c.b, .slice aa1 c.keys.length p1, .slice aa2 c.vals.length p2]) (by rfl) rfl rfl hx2 (by repeat (first | exact pull_here | exact pull_end | apply pull_skip | apply pull_app)) (Ats.own (List.Mem.head _)) rfl rfl (by omega) (by omega)) ?_
    rintro _ _ _ _ ⟨a', cap', hp', rfl, hown, rfl, rfl⟩
    refine AW_same (i := 9) (by kernel_rfl) (fun _ => ⟨by (repeat (first | exact List.Mem.head _ | apply List.Mem.tail | apply List.mem_append_right)), by (repeat (first | exact List.Mem.head _ | apply List.Mem.tail | apply List.mem_append_right))⟩) rfl (by exact gk) rfl rfl (T_nilCheck rfl) ?_
    refine AW_same (i := 10) (by kernel_rfl) (fun _ => ⟨by (repeat (first | exact List.Mem.head _ | apply List.Mem.tail | apply List.mem_append_right)), by (repeat (first | exact List.Mem.head _ | apply List.Mem.tail | apply List.mem_append_right))⟩) rfl (by exact gk) rfl rfl (T_fieldAddr rfl) ?_
    refine AW_st (i := 11) (by kernel_rfl) (fun _ => ⟨by (repeat (first | exact List.Mem.head _ | apply List.Mem.tail | apply List.mem_append_right)), by (repeat (first | exact List.Mem.head _ | apply List.Mem.tail | apply List.mem_append_right))⟩) rfl (by exact gk) rfl (T_store rfl rfl rfl rfl (by repeat (first | exact Upd.head | apply Upd.tail | apply Upd.app)) (by repeat (first | exact SetL.head | apply SetL.tail))) ?_
    refine AW_done (by kernel_rfl) (fun h => by cases h) ?_
    repeat (first | apply CW_seq | apply CW_region | apply RW_nil | apply thenQ_normal | apply thenQ_ret | apply thenQ_exit | apply blockQ_normal | apply blockQ_ret | apply blockQ_exit | (apply Xn; exact rfl) | apply CW_skip | apply CW_ret | apply CW_exit | apply CW_block | (apply CW_cf; exact rfl; exact bf) | (apply CW_ct; exact rfl; exact bt) | (apply RW_no; exact rfl; exact rfl; exact rfl; exact rfl; exact bn) | (apply RWu; exact rfl; exact rfl; exact rfl; exact rfl) | (apply RW_same; exact rfl; exact gk; exact op1) | (apply RW_box; exact rfl; exact gk; (first | exact T_alloc | exact T_boxA rfl | exact T_box1 rfl rfl); intro _) | (apply RW_st; exact gk; exact st1))
    have hnew : OwnT 31 m2 a' (page ++ [c]).length cap' (page ++ [c]) hp' :=
      ⟨rfl, _, hx1.append (RepL.single hc), by simpa using hown⟩
    obtain ⟨h', k1, k2⟩ := h9 m2 a' cap' (page ++ [c]) hp' (hle1.trans hle2) hnew
    have hch : (room8 cells).set (cells.length / 8) (page ++ [c]) = chunk8 (cells ++ [c]) := by
      rw [← hgg]; exact chunk8_add cells c hk'
    rw [hch] at k1
    rw [List.length_append, List.length_singleton] at k2
    refine ret_rp [(b2, box 31 [.int .i64 c.kind, .int .i64 c.a, .int .i64 c.b, .slice aa1 c.keys.length p1, .slice aa2 c.vals.length p2]), (bx, box 31 [.int .i64 c.kind, .int .i64 c.a, .int .i64 c.b, kv, vv])] ((((bk, box 87 [.pointer (some ⟨fam, 0, none⟩), .slice (some ⟨pb, 0, none⟩) ps.length cap, .int .i64 (cells ++ [c]).length, .bool false]) :: (fam, box 84 [.int .i64 ps.length]) :: ([(pb, box 88 cur)] ++ h'))) ++ F) rfl (by exact rv) ?_ ?_
    · refine List.Perm.trans ?_ (List.Perm.append_left _ (((((k2.symm.append_left _).cons _).cons _).append_right F)))
      simp only [List.length_append, List.length_cons, List.length_nil, Nat.zero_add, Int.natCast_add, Int.natCast_one]
      exact pm
    · refine ⟨_, ?_, ⟨by rw [List.length_append]; simp; omega, fun x hx => ?_, fam, _, cap, ps, _, _, rfl, h3.mono (hle1.trans hle2), k1⟩, rfl⟩
      · show Value.tuple #[.int .i64 ((cells.length : Int) + 1 - 1), .int .i64 0] = _
        rw [Int.add_sub_cancel]
      · rcases List.mem_append.1 hx with hx | hx
        · exact hsm0 x hx
        · rw [List.mem_singleton.1 hx]; exact hsm
end Go.Proofs.YtbhpofplencjgaaDoor
