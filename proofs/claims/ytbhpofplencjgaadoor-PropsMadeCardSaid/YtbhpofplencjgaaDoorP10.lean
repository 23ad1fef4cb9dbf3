/- A value is set by a name. Conditions: none. -/
import Derived.Test.YtbhpofplencjgaaDoorP9
namespace Go.Proofs.YtbhpofplencjgaaDoor
open Go Go.WL
set_option linter.unusedSimpArgs false
set_option linter.unusedVariables false
attribute [local irreducible] OpP OpT RW CW AW FnR FnP BinR At thenQ blockQ bodyQ

theorem props_cell {h : Nat} {m : Mem} {hs F : Hp} {cells : List Cel} {v : Val} {k : Int} (g : Good m h cells hs) (hk : v.k = 5) (hr : 1 ≤ v.n ∧ v.n ≤ cells.length) :
    FnR Tryd.prog 26 #[.pointer (some ⟨h, 0, none⟩), .agg ⟨v.cs⟩, .int .i64 k] m (hs ++ F) fun v' m' H' => ∃ kv vv h1 h2,
      v' = .tuple #[.agg #[.int .i64 (cells[(v.n - 1).toNat]'(by omega)).kind, .int .i64 (cells[(v.n - 1).toNat]'(by omega)).a, .int .i64 (cells[(v.n - 1).toNat]'(by omega)).b, kv, vv], .bool (decide ((cells[(v.n - 1).toNat]'(by omega)).kind = k))] ∧
      Cop 9 m kv (cells[(v.n - 1).toNat]'(by omega)).keys h1 ∧ Cop 33 m vv (cells[(v.n - 1).toNat]'(by omega)).vals h2 ∧ m = m' ∧ H' = h2 ++ (h1 ++ (hs ++ F)) := by
  have hn := g.n
  refine FnR.enter Tryd.func26 rfl Tryd.ntmps26 rfl fun s => ?_
  repeat (first | apply CW_seq | apply CW_region | apply RW_nil | apply thenQ_normal | apply thenQ_ret | apply thenQ_exit | apply blockQ_normal | apply blockQ_ret | apply blockQ_exit | (apply Xn; exact rfl) | apply CW_skip | apply CW_ret | apply CW_exit | apply CW_block | (apply CW_cf; exact rfl; exact bf) | (apply CW_ct; exact rfl; exact bt) | (apply RW_no; exact rfl; exact rfl; exact rfl; exact rfl; exact bn) | (apply RWu; exact rfl; exact rfl; exact rfl; exact rfl) | (apply RW_same; exact rfl; exact gk; exact op1) | (apply RW_box; exact rfl; exact gk; (first | exact T_alloc | exact T_boxA rfl | exact T_box1 rfl rfl); intro _) | (apply RW_st; exact gk; exact st1))
  refine CW_cond_ndec rfl (fun h => ?_) (fun h => ?_)
  · exact absurd hk h
  rename_i b4 b6
  repeat (first | apply CW_seq | apply CW_region | apply RW_nil | apply thenQ_normal | apply thenQ_ret | apply thenQ_exit | apply blockQ_normal | apply blockQ_ret | apply blockQ_exit | (apply Xn; exact rfl) | apply CW_skip | apply CW_ret | apply CW_exit | apply CW_block | (apply CW_cf; exact rfl; exact bf) | (apply CW_ct; exact rfl; exact bt) | (apply RW_no; exact rfl; exact rfl; exact rfl; exact rfl; exact bn) | (apply RWu; exact rfl; exact rfl; exact rfl; exact rfl) | (apply RW_same; exact rfl; exact gk; exact op1) | (apply RW_box; exact rfl; exact gk; (first | exact T_alloc | exact T_boxA rfl | exact T_box1 rfl rfl); intro _) | (apply RW_st; exact gk; exact st1))
  refine RW_call rfl (by exact gk) rfl (FnR.perm (H := hs ++ ((b6, box 31 _) :: (b4, box 33 v.cs) :: F)) (by exact pm) (heap_Load g.at_ hr)) ?_
  rintro _ _ _ _ ⟨kv', vv', h1, h2, rfl, hc1, hc2, rfl, rfl⟩
  have hidx : (v.n - 1).toNat < cells.length := by omega
  generalize cells[(v.n - 1).toNat] = c at *
  obtain ⟨a1, p1, rfl, hp1, ho1⟩ := hc1
  obtain ⟨a2, p2, rfl, hp2, ho2⟩ := hc2
  repeat (first | apply CW_seq | apply CW_region | apply RW_nil | apply thenQ_normal | apply thenQ_ret | apply thenQ_exit | apply blockQ_normal | apply blockQ_ret | apply blockQ_exit | (apply Xn; exact rfl) | apply CW_skip | apply CW_ret | apply CW_exit | apply CW_block | (apply CW_cf; exact rfl; exact bf) | (apply CW_ct; exact rfl; exact bt) | (apply RW_no; exact rfl; exact rfl; exact rfl; exact rfl; exact bn) | (apply RWu; exact rfl; exact rfl; exact rfl; exact rfl) | (apply RW_same; exact rfl; exact gk; exact op1) | (apply RW_box; exact rfl; exact gk; (first | exact T_alloc | exact T_boxA rfl | exact T_box1 rfl rfl); intro _) | (apply RW_st; exact gk; exact st1))
  rename_i b8
  refine CW_draw (fun m' H' => (b8, box 31 [.int .i64 c.kind, .int .i64 c.a, .int .i64 c.b, .slice a1 c.keys.length p1, .slice a2 c.vals.length p2]) ∈ H') 10 11 rfl (by kernel_rfl) ?_
  refine AW_take (i := 0) [10] rfl rfl rfl (by exact gk) (by kernel_rfl) (fun m' H' hSt => T_loadA rfl (Ats.own hSt) rfl) ?_
  refine AW_take (i := 1) [10] rfl rfl rfl (by exact gk) (by kernel_rfl) (fun m' H' hSt => T_move rfl) ?_
  refine AW_take (i := 2) [10] rfl rfl rfl (by exact gk) (by kernel_rfl) (fun m' H' hSt => T_bin rfl rfl BinR.eql) ?_
  refine AW_take (i := 3) [10] rfl rfl rfl (by exact gk) (by kernel_rfl) (fun m' H' hSt => T_move rfl) ?_
  refine AW_take (i := 4) [10] rfl rfl rfl (by exact gk) (by kernel_rfl) (fun m' H' hSt => T_fieldAddr rfl) ?_
  refine AW_take (i := 5) [10] rfl rfl rfl (by exact gk) (by kernel_rfl) (fun m' H' hSt => T_load rfl (At.own hSt rfl)) ?_
  refine AW_take (i := 6) [10] rfl rfl rfl (by exact gk) (by kernel_rfl) (fun m' H' hSt => T_move rfl) ?_
  refine AW_take (i := 7) [10] rfl rfl rfl (by exact gk) (by kernel_rfl) (fun m' H' hSt => T_bin rfl rfl BinR.eql) ?_
  refine AW_take (i := 8) [10] rfl rfl rfl (by exact gk) (by kernel_rfl) (fun m' H' hSt => T_pickT rfl rfl) ?_
  refine AW_st (i := 9) (by kernel_rfl) (fun _ => by (repeat (first | exact List.Mem.head _ | apply List.Mem.tail | apply List.mem_append_right))) rfl (by exact gk) rfl (T_storeA rfl rfl rfl rfl (by repeat (first | exact Upd.head | apply Upd.tail | apply Upd.app)) (by rfl)) ?_
  refine AW_same (i := 10) (by kernel_rfl) (fun _ => by (repeat (first | exact List.Mem.head _ | apply List.Mem.tail | apply List.mem_append_right))) rfl (by exact gk) rfl rfl (T_assign rfl) ?_
  refine AW_done (by kernel_rfl) (fun h => by cases h) ?_
  repeat (first | apply CW_seq | apply CW_region | apply RW_nil | apply thenQ_normal | apply thenQ_ret | apply thenQ_exit | apply blockQ_normal | apply blockQ_ret | apply blockQ_exit | (apply Xn; exact rfl) | apply CW_skip | apply CW_ret | apply CW_exit | apply CW_block | (apply CW_cf; exact rfl; exact bf) | (apply CW_ct; exact rfl; exact bt) | (apply RW_no; exact rfl; exact rfl; exact rfl; exact rfl; exact bn) | (apply RWu; exact rfl; exact rfl; exact rfl; exact rfl) | (apply RW_same; exact rfl; exact gk; exact op1) | (apply RW_box; exact rfl; exact gk; (first | exact T_alloc | exact T_boxA rfl | exact T_box1 rfl rfl); intro _) | (apply RW_st; exact gk; exact st1))
  refine ret_rp [(b8, _), (b6, _), (b4, _)] (h2 ++ (h1 ++ (hs ++ F))) rfl (by exact rv) (by exact pm) ?_
  exact ⟨_, _, h1, h2, rfl, ⟨_, _, rfl, hp1, ho1⟩, ⟨_, _, rfl, hp2, ho2⟩, rfl, rfl⟩

theorem props_cell_no {h : Nat} {m : Mem} {hs F : Hp} {cells : List Cel} {v : Val} {k : Int} (g : Good m h cells hs) (hv : v.k = 5 → ¬ (1 ≤ v.n ∧ v.n ≤ cells.length)) (hr : -9223372036854775808 < v.n) (hr' : v.n ≤ 9223372036854775807) :
    FnR Tryd.prog 26 #[.pointer (some ⟨h, 0, none⟩), .agg ⟨v.cs⟩, .int .i64 k] m (hs ++ F) fun v' m' H' =>
      v' = .tuple #[.agg #[.int .i64 0, .int .i64 0, .int .i64 0, .slice none 0 0, .slice none 0 0], .bool false] ∧ m = m' ∧ H' = hs ++ F := by
  refine FnR.enter Tryd.func26 rfl Tryd.ntmps26 rfl fun s => ?_
  repeat (first | apply CW_seq | apply CW_region | apply RW_nil | apply thenQ_normal | apply thenQ_ret | apply thenQ_exit | apply blockQ_normal | apply blockQ_ret | apply blockQ_exit | (apply Xn; exact rfl) | apply CW_skip | apply CW_ret | apply CW_exit | apply CW_block | (apply CW_cf; exact rfl; exact bf) | (apply CW_ct; exact rfl; exact bt) | (apply RW_no; exact rfl; exact rfl; exact rfl; exact rfl; exact bn) | (apply RWu; exact rfl; exact rfl; exact rfl; exact rfl) | (apply RW_same; exact rfl; exact gk; exact op1) | (apply RW_box; exact rfl; exact gk; (first | exact T_alloc | exact T_boxA rfl | exact T_box1 rfl rfl); intro _) | (apply RW_st; exact gk; exact st1))
  refine CW_cond_ndec rfl (fun h => ?_) (fun h => ?_)
  · repeat (first | apply CW_seq | apply CW_region | apply RW_nil | apply thenQ_normal | apply thenQ_ret | apply thenQ_exit | apply blockQ_normal | apply blockQ_ret | apply blockQ_exit | (apply Xn; exact rfl) | apply CW_skip | apply CW_ret | apply CW_exit | apply CW_block | (apply CW_cf; exact rfl; exact bf) | (apply CW_ct; exact rfl; exact bt) | (apply RW_no; exact rfl; exact rfl; exact rfl; exact rfl; exact bn) | (apply RWu; exact rfl; exact rfl; exact rfl; exact rfl) | (apply RW_same; exact rfl; exact gk; exact op1) | (apply RW_box; exact rfl; exact gk; (first | exact T_alloc | exact T_boxA rfl | exact T_box1 rfl rfl); intro _) | (apply RW_st; exact gk; exact st1))
    first | refine rR (hs ++ F) (h := ?_) | refine rN (hs ++ F) (h := ?_)
    exact ⟨rfl, rfl, rfl⟩
  rename_i b4 b6
  repeat (first | apply CW_seq | apply CW_region | apply RW_nil | apply thenQ_normal | apply thenQ_ret | apply thenQ_exit | apply blockQ_normal | apply blockQ_ret | apply blockQ_exit | (apply Xn; exact rfl) | apply CW_skip | apply CW_ret | apply CW_exit | apply CW_block | (apply CW_cf; exact rfl; exact bf) | (apply CW_ct; exact rfl; exact bt) | (apply RW_no; exact rfl; exact rfl; exact rfl; exact rfl; exact bn) | (apply RWu; exact rfl; exact rfl; exact rfl; exact rfl) | (apply RW_same; exact rfl; exact gk; exact op1) | (apply RW_box; exact rfl; exact gk; (first | exact T_alloc | exact T_boxA rfl | exact T_box1 rfl rfl); intro _) | (apply RW_st; exact gk; exact st1))
  refine RW_call rfl (by exact gk) rfl (FnR.perm (H := hs ++ ((b6, box 31 _) :: (b4, box 33 v.cs) :: F)) (by exact pm) (heap_Load_no g.at_ (hv h) hr hr')) ?_
  rintro _ _ _ _ ⟨rfl, rfl, rfl⟩
  repeat (first | apply CW_seq | apply CW_region | apply RW_nil | apply thenQ_normal | apply thenQ_ret | apply thenQ_exit | apply blockQ_normal | apply blockQ_ret | apply blockQ_exit | (apply Xn; exact rfl) | apply CW_skip | apply CW_ret | apply CW_exit | apply CW_block | (apply CW_cf; exact rfl; exact bf) | (apply CW_ct; exact rfl; exact bt) | (apply RW_no; exact rfl; exact rfl; exact rfl; exact rfl; exact bn) | (apply RWu; exact rfl; exact rfl; exact rfl; exact rfl) | (apply RW_same; exact rfl; exact gk; exact op1) | (apply RW_box; exact rfl; exact gk; (first | exact T_alloc | exact T_boxA rfl | exact T_box1 rfl rfl); intro _) | (apply RW_st; exact gk; exact st1))
  rename_i b8
  refine CW_draw (fun m' H' => (b8, box 31 [.int .i64 0, .int .i64 0, .int .i64 0, .slice none 0 0, .slice none 0 0]) ∈ H') 10 11 rfl (by kernel_rfl) ?_
  refine AW_take (i := 0) [10] rfl rfl rfl (by exact gk) (by kernel_rfl) (fun m' H' hSt => T_loadA rfl (Ats.own hSt) rfl) ?_
  refine AW_take (i := 1) [10] rfl rfl rfl (by exact gk) (by kernel_rfl) (fun m' H' hSt => T_move rfl) ?_
  refine AW_take (i := 2) [10] rfl rfl rfl (by exact gk) (by kernel_rfl) (fun m' H' hSt => T_bin rfl rfl BinR.eql) ?_
  refine AW_take (i := 3) [10] rfl rfl rfl (by exact gk) (by kernel_rfl) (fun m' H' hSt => T_move rfl) ?_
  refine AW_no (i := 4) [10] rfl rfl rfl rfl rfl rfl rfl (by kernel_rfl) ?_
  refine AW_no (i := 5) [10] rfl rfl rfl rfl rfl rfl rfl (by kernel_rfl) ?_
  refine AW_no (i := 6) [10] rfl rfl rfl rfl rfl rfl rfl (by kernel_rfl) ?_
  refine AW_no (i := 7) [10] rfl rfl rfl rfl rfl rfl rfl (by kernel_rfl) ?_
  refine AW_take (i := 8) [10] rfl rfl rfl (by exact gk) (by kernel_rfl) (fun m' H' hSt => T_pickF rfl rfl) ?_
  refine AW_st (i := 9) (by kernel_rfl) (fun _ => by (repeat (first | exact List.Mem.head _ | apply List.Mem.tail | apply List.mem_append_right))) rfl (by exact gk) rfl (T_storeA rfl rfl rfl rfl (by repeat (first | exact Upd.head | apply Upd.tail | apply Upd.app)) (by rfl)) ?_
  refine AW_same (i := 10) (by kernel_rfl) (fun _ => by (repeat (first | exact List.Mem.head _ | apply List.Mem.tail | apply List.mem_append_right))) rfl (by exact gk) rfl rfl (T_assign rfl) ?_
  refine AW_done (by kernel_rfl) (fun h => by cases h) ?_
  repeat (first | apply CW_seq | apply CW_region | apply RW_nil | apply thenQ_normal | apply thenQ_ret | apply thenQ_exit | apply blockQ_normal | apply blockQ_ret | apply blockQ_exit | (apply Xn; exact rfl) | apply CW_skip | apply CW_ret | apply CW_exit | apply CW_block | (apply CW_cf; exact rfl; exact bf) | (apply CW_ct; exact rfl; exact bt) | (apply RW_no; exact rfl; exact rfl; exact rfl; exact rfl; exact bn) | (apply RWu; exact rfl; exact rfl; exact rfl; exact rfl) | (apply RW_same; exact rfl; exact gk; exact op1) | (apply RW_box; exact rfl; exact gk; (first | exact T_alloc | exact T_boxA rfl | exact T_box1 rfl rfl); intro _) | (apply RW_st; exact gk; exact st1))
  refine ret_rp [(b8, _), (b6, _), (b4, _)] (hs ++ F) rfl (by exact rv) (by exact pm) ?_
  exact ⟨rfl, rfl, rfl⟩

/-- what is behind a value set by a name: the cells, the error's number -/
def setV (cells : List Cel) (v : Val) (name : S) (x : Val) : List Cel × Int :=
  if h : v.k = 5 ∧ 1 ≤ v.n ∧ v.n ≤ cells.length then
    let c := cells[(v.n - 1).toNat]'(by omega)
    if c.kind = 1 then
      match find c.keys name with
      | some i => (cells.set (v.n - 1).toNat { c with vals := c.vals.set i x }, 0)
      | none => if 1024 ≤ c.keys.length then (cells, 7) else (cells.set (v.n - 1).toNat { c with keys := c.keys ++ [name], vals := c.vals ++ [x] }, 0)
    else (cells, 8)
  else (cells, 8)

theorem WP.set {cells : List Cel} (hw : WP cells) (i : Nat) (hi : i < cells.length) (c : Cel) (hk : c.kind = cells[i].kind) (ha : c.a = cells[i].a) (hl : c.kind = 1 → c.keys.length = c.vals.length) : WP (cells.set i c) := by
  intro j hj hkj
  rw [List.length_set] at hj
  rw [List.getElem_set] at hkj
  have kinds : ∀ q (hq : q < cells.length), cells[q].kind = 1 → ((cells.set i c)[q]'(by rw [List.length_set]; exact hq)).kind = 1 := fun q hq h => by
    rw [List.getElem_set]
    split
    · rename_i e; subst e; rw [hk]; exact h
    · exact h
  simp only [List.getElem_set]
  split at hkj
  · rename_i e
    subst e
    rw [if_pos rfl]
    obtain ⟨h1, h2, h3, h4⟩ := hw i hi (hk ▸ hkj)
    refine ⟨by rw [ha]; exact h1, by rw [ha]; exact h2, hl hkj, fun q hq e => ?_⟩
    rw [List.length_set] at hq
    have := kinds q hq (h4 q hq (ha ▸ e))
    simpa [List.getElem_set] using this
  · rename_i e
    rw [if_neg e]
    obtain ⟨h1, h2, h3, h4⟩ := hw j hj hkj
    refine ⟨h1, h2, h3, fun q hq e => ?_⟩
    rw [List.length_set] at hq
    have := kinds q hq (h4 q hq e)
    simpa [List.getElem_set] using this

theorem props_Set {hb : Nat} {m : Mem} {hs F : Hp} {cells : List Cel} {v x : Val} {name : S} (g : Good m hb cells hs) (hn : -9223372036854775808 < v.n ∧ v.n ≤ 9223372036854775807) :
    FnR Tryd.prog 18 #[.pointer (some ⟨hb, 0, none⟩), .agg ⟨v.cs⟩, str name, .agg ⟨x.cs⟩] m (hs ++ F) fun v' m' H' => ∃ hs',
      v' = .int .i64 (setV cells v name x).2 ∧ Good m' hb (setV cells v name x).1 hs' ∧ H' = hs' ++ F := by
  refine FnR.enter Tryd.func18 rfl Tryd.ntmps18 rfl fun s => ?_
  repeat (first | apply CW_seq | apply CW_region | apply RW_nil | apply thenQ_normal | apply thenQ_ret | apply thenQ_exit | apply blockQ_normal | apply blockQ_ret | apply blockQ_exit | (apply Xn; exact rfl) | apply CW_skip | apply CW_ret | apply CW_exit | apply CW_block | (apply CW_cf; exact rfl; exact bf) | (apply CW_ct; exact rfl; exact bt) | (apply RW_no; exact rfl; exact rfl; exact rfl; exact rfl; exact bn) | (apply RWu; exact rfl; exact rfl; exact rfl; exact rfl) | (apply RW_same; exact rfl; exact gk; exact op1) | (apply RW_box; exact rfl; exact gk; (first | exact T_alloc | exact T_boxA rfl | exact T_box1 rfl rfl); intro _) | (apply RW_st; exact gk; exact st1))
  rename_i b5 b7
  by_cases hr : v.k = 5 ∧ 1 ≤ v.n ∧ v.n ≤ cells.length
  rotate_left
  · refine RW_call rfl (by exact gk) rfl (FnR.perm (H := hs ++ ((b7, box 33 x.cs) :: (b5, box 33 v.cs) :: F)) (by exact pm) (props_cell_no g (fun hk hc => hr ⟨hk, hc⟩) hn.1 hn.2)) ?_
    rintro _ _ _ _ ⟨rfl, rfl, rfl⟩
    repeat (first | apply CW_seq | apply CW_region | apply RW_nil | apply thenQ_normal | apply thenQ_ret | apply thenQ_exit | apply blockQ_normal | apply blockQ_ret | apply blockQ_exit | (apply Xn; exact rfl) | apply CW_skip | apply CW_ret | apply CW_exit | apply CW_block | (apply CW_cf; exact rfl; exact bf) | (apply CW_ct; exact rfl; exact bt) | (apply RW_no; exact rfl; exact rfl; exact rfl; exact rfl; exact bn) | (apply RWu; exact rfl; exact rfl; exact rfl; exact rfl) | (apply RW_same; exact rfl; exact gk; exact op1) | (apply RW_box; exact rfl; exact gk; (first | exact T_alloc | exact T_boxA rfl | exact T_box1 rfl rfl); intro _) | (apply RW_st; exact gk; exact st1))
    first | refine rR (hs ++ F) (h := ?_) | refine rN (hs ++ F) (h := ?_)
    refine ⟨hs, ?_, ?_, rfl⟩
    · simp only [setV, dif_neg hr]; rfl
    · simp only [setV, dif_neg hr]; exact g
  refine RW_call rfl (by exact gk) rfl (FnR.perm (H := hs ++ ((b7, box 33 x.cs) :: (b5, box 33 v.cs) :: F)) (by exact pm) (props_cell g hr.1 hr.2)) ?_
  rintro _ _ _ _ ⟨kv, vv, h1, h2, rfl, hc1, hc2, rfl, rfl⟩
  have hidx : (v.n - 1).toNat < cells.length := by omega
  have hsm := g.small _ (List.getElem_mem hidx)
  have hwp := g.wp _ hidx
  have hset := fun (d : Cel) => g.wp.set _ hidx d
  have hsv : setV cells v name x = ((if cells[(v.n - 1).toNat].kind = 1 then
      match find cells[(v.n - 1).toNat].keys name with
      | some i => (cells.set (v.n - 1).toNat { cells[(v.n - 1).toNat] with vals := cells[(v.n - 1).toNat].vals.set i x }, 0)
      | none => if 1024 ≤ cells[(v.n - 1).toNat].keys.length then (cells, 7) else (cells.set (v.n - 1).toNat { cells[(v.n - 1).toNat] with keys := cells[(v.n - 1).toNat].keys ++ [name], vals := cells[(v.n - 1).toNat].vals ++ [x] }, 0)
    else (cells, 8)) : List Cel × Int) := by
    simp only [setV, dif_pos hr]
  generalize cells[(v.n - 1).toNat] = c at *
  obtain ⟨a1, p1, rfl, hp1, ho1⟩ := hc1
  obtain ⟨a2, p2, rfl, hp2, ho2⟩ := hc2
  repeat (first | apply CW_seq | apply CW_region | apply RW_nil | apply thenQ_normal | apply thenQ_ret | apply thenQ_exit | apply blockQ_normal | apply blockQ_ret | apply blockQ_exit | (apply Xn; exact rfl) | apply CW_skip | apply CW_ret | apply CW_exit | apply CW_block | (apply CW_cf; exact rfl; exact bf) | (apply CW_ct; exact rfl; exact bt) | (apply RW_no; exact rfl; exact rfl; exact rfl; exact rfl; exact bn) | (apply RWu; exact rfl; exact rfl; exact rfl; exact rfl) | (apply RW_same; exact rfl; exact gk; exact op1) | (apply RW_box; exact rfl; exact gk; (first | exact T_alloc | exact T_boxA rfl | exact T_box1 rfl rfl); intro _) | (apply RW_st; exact gk; exact st1))
  refine CW_cond_ndec rfl (fun h => ?_) (fun h => ?_)
  · repeat (first | apply CW_seq | apply CW_region | apply RW_nil | apply thenQ_normal | apply thenQ_ret | apply thenQ_exit | apply blockQ_normal | apply blockQ_ret | apply blockQ_exit | (apply Xn; exact rfl) | apply CW_skip | apply CW_ret | apply CW_exit | apply CW_block | (apply CW_cf; exact rfl; exact bf) | (apply CW_ct; exact rfl; exact bt) | (apply RW_no; exact rfl; exact rfl; exact rfl; exact rfl; exact bn) | (apply RWu; exact rfl; exact rfl; exact rfl; exact rfl) | (apply RW_same; exact rfl; exact gk; exact op1) | (apply RW_box; exact rfl; exact gk; (first | exact T_alloc | exact T_boxA rfl | exact T_box1 rfl rfl); intro _) | (apply RW_st; exact gk; exact st1))
    first | refine rR (hs ++ F) (h := ?_) | refine rN (hs ++ F) (h := ?_)
    refine ⟨hs, ?_, ?_, rfl⟩
    · rw [hsv, if_neg h]; rfl
    · rw [hsv, if_neg h]; exact g
  have hkind : c.kind = 1 := h
  rw [if_pos hkind] at hsv
  rename_i b9
  repeat (first | apply CW_region | apply RW_nil | apply thenQ_normal | apply thenQ_ret | apply thenQ_exit | apply blockQ_normal | apply blockQ_ret | apply blockQ_exit | (apply Xn; exact rfl) | apply CW_skip | apply CW_ret | apply CW_exit | apply CW_block | (apply CW_cf; exact rfl; exact bf) | (apply CW_ct; exact rfl; exact bt) | (apply RW_no; exact rfl; exact rfl; exact rfl; exact rfl; exact bn) | (apply RWu; exact rfl; exact rfl; exact rfl; exact rfl) | (apply RW_same; exact rfl; exact gk; exact op1) | (apply RW_box; exact rfl; exact gk; (first | exact T_alloc | exact T_boxA rfl | exact T_box1 rfl rfl); intro _) | (apply RW_st; exact gk; exact st1))
  refine CW_seq ?_
  repeat (first | apply CW_region | apply RW_nil | apply thenQ_normal | apply thenQ_ret | apply thenQ_exit | apply blockQ_normal | apply blockQ_ret | apply blockQ_exit | (apply Xn; exact rfl) | apply CW_skip | apply CW_ret | apply CW_exit | apply CW_block | (apply CW_cf; exact rfl; exact bf) | (apply CW_ct; exact rfl; exact bt) | (apply RW_no; exact rfl; exact rfl; exact rfl; exact rfl; exact bn) | (apply RWu; exact rfl; exact rfl; exact rfl; exact rfl) | (apply RW_same; exact rfl; exact gk; exact op1) | (apply RW_box; exact rfl; exact gk; (first | exact T_alloc | exact T_boxA rfl | exact T_box1 rfl rfl); intro _) | (apply RW_st; exact gk; exact st1))
  refine RW_call rfl (by exact gk) rfl (props_place (ho1.rd (fun y hy => List.Mem.tail _ (List.mem_append_right _ (List.mem_append_left _ hy)))) hsm.1) ?_
  rintro _ _ _ _ ⟨rfl, rfl, rfl⟩
  repeat (first | apply CW_region | apply RW_nil | apply thenQ_normal | apply thenQ_ret | apply thenQ_exit | apply blockQ_normal | apply blockQ_ret | apply blockQ_exit | (apply Xn; exact rfl) | apply CW_skip | apply CW_ret | apply CW_exit | apply CW_block | (apply CW_cf; exact rfl; exact bf) | (apply CW_ct; exact rfl; exact bt) | (apply RW_no; exact rfl; exact rfl; exact rfl; exact rfl; exact bn) | (apply RWu; exact rfl; exact rfl; exact rfl; exact rfl) | (apply RW_same; exact rfl; exact gk; exact op1) | (apply RW_box; exact rfl; exact gk; (first | exact T_alloc | exact T_boxA rfl | exact T_box1 rfl rfl); intro _) | (apply RW_st; exact gk; exact st1))
  refine CW_cut (fun env' m' H' => ∃ keys' vals' kv vv h1' h2' L, Env.sub [(0, .pointer (some ⟨hb, 0, none⟩)), (5, .pointer (some ⟨b5, 0, none⟩)), (9, .pointer (some ⟨b9, 0, none⟩))] env' ∧ m = m' ∧
    H'.Perm (L ++ ((b9, box 31 [.int .i64 c.kind, .int .i64 c.a, .int .i64 c.b, kv, vv]) :: (b5, box 33 v.cs) :: (h1' ++ (h2' ++ (hs ++ F))))) ∧
    Cop 9 m kv keys' h1' ∧ Cop 33 m vv vals' h2' ∧ setV cells v name x = (cells.set (v.n - 1).toNat { c with keys := keys', vals := vals' }, 0) ∧ (keys'.length ≤ 1000000 ∧ vals'.length ≤ 1000000) ∧ keys'.length = vals'.length) ?_ ?_
  · repeat (first | apply CW_seq | apply CW_region | apply RW_nil | apply thenQ_normal | apply thenQ_ret | apply thenQ_exit | apply blockQ_normal | apply blockQ_ret | apply blockQ_exit | (apply Xn; exact rfl) | apply CW_skip | apply CW_ret | apply CW_exit | apply CW_block | (apply CW_cf; exact rfl; exact bf) | (apply CW_ct; exact rfl; exact bt) | (apply RW_no; exact rfl; exact rfl; exact rfl; exact rfl; exact bn) | (apply RWu; exact rfl; exact rfl; exact rfl; exact rfl) | (apply RW_same; exact rfl; exact gk; exact op1) | (apply RW_box; exact rfl; exact gk; (first | exact T_alloc | exact T_boxA rfl | exact T_box1 rfl rfl); intro _) | (apply RW_st; exact gk; exact st1))
    refine CW_cond rfl (fun h => ?_) (fun h => ?_)
    · obtain ⟨i, hi⟩ := Option.isSome_iff_exists.mp h
      rw [hi] at hsv
      have hil := find_lt hi
      have hfi : findI c.keys name = i := by simp only [findI, hi]
      rw [hfi]
      obtain ⟨bv, cur, rfl, rfl, hcl, hos⟩ := ho2.set i (by omega)
      repeat (first | apply CW_seq | apply CW_region | apply RW_nil | apply thenQ_normal | apply thenQ_ret | apply thenQ_exit | apply blockQ_normal | apply blockQ_ret | apply blockQ_exit | (apply Xn; exact rfl) | apply CW_skip | apply CW_ret | apply CW_exit | apply CW_block | (apply CW_cf; exact rfl; exact bf) | (apply CW_ct; exact rfl; exact bt) | (apply RW_no; exact rfl; exact rfl; exact rfl; exact rfl; exact bn) | (apply RWu; exact rfl; exact rfl; exact rfl; exact rfl) | (apply RW_same; exact rfl; exact gk; exact op1) | (apply RW_box; exact rfl; exact gk; (first | exact T_alloc | exact T_boxA rfl | exact T_box1 rfl rfl); intro _) | (apply RW_st; exact gk; exact st1))
      have hcl3 : (i + 1) * 3 ≤ cur.length := hcl
      refine RW_same rfl (by exact gk) (T_indexAddr rfl rfl (by omega)) ?_
      refine RW_st (by exact gk) (T_storeP (l := cur) rfl rfl rfl rfl (by show 0 + (i : Int).toNat * 3 + 3 ≤ cur.length; omega) (by simp only [Int.toNat_natCast, Nat.zero_add]; repeat (first | exact Upd.head | apply Upd.tail | apply Upd.app))) ?_
      repeat (first | apply CW_seq | apply CW_region | apply RW_nil | apply thenQ_normal | apply thenQ_ret | apply thenQ_exit | apply blockQ_normal | apply blockQ_ret | apply blockQ_exit | (apply Xn; exact rfl) | apply CW_skip | apply CW_ret | apply CW_exit | apply CW_block | (apply CW_cf; exact rfl; exact bf) | (apply CW_ct; exact rfl; exact bt) | (apply RW_no; exact rfl; exact rfl; exact rfl; exact rfl; exact bn) | (apply RWu; exact rfl; exact rfl; exact rfl; exact rfl) | (apply RW_same; exact rfl; exact gk; exact op1) | (apply RW_box; exact rfl; exact gk; (first | exact T_alloc | exact T_boxA rfl | exact T_box1 rfl rfl); intro _) | (apply RW_st; exact gk; exact st1))
      refine ⟨c.keys, c.vals.set i x, .slice a1 c.keys.length p1, .slice (some ⟨bv, 0, none⟩) c.vals.length p2, h1, [(bv, box 33 (setP cur (i * 3) x.cs))], [(b7, box 33 x.cs)], by exact sb, rfl, ?_, ⟨_, _, rfl, hp1, ho1⟩, ⟨some ⟨bv, 0, none⟩, p2, by simp, by simpa using hp2, ?_⟩, hsv, ?_, ?_⟩
      · exact pm
      · have := hos m x x.cs (Mem.le.refl m) rfl
        rw [List.length_set]
        exact this
      · rw [List.length_set]
        exact hsm
      · simpa using (hwp hkind).2.2.1
    · have hi : find c.keys name = none := by simpa using h
      rw [hi] at hsv
      repeat (first | apply CW_seq | apply CW_region | apply RW_nil | apply thenQ_normal | apply thenQ_ret | apply thenQ_exit | apply blockQ_normal | apply blockQ_ret | apply blockQ_exit | (apply Xn; exact rfl) | apply CW_skip | apply CW_ret | apply CW_exit | apply CW_block | (apply CW_cf; exact rfl; exact bf) | (apply CW_ct; exact rfl; exact bt) | (apply RW_no; exact rfl; exact rfl; exact rfl; exact rfl; exact bn) | (apply RWu; exact rfl; exact rfl; exact rfl; exact rfl) | (apply RW_same; exact rfl; exact gk; exact op1) | (apply RW_box; exact rfl; exact gk; (first | exact T_alloc | exact T_boxA rfl | exact T_box1 rfl rfl); intro _) | (apply RW_st; exact gk; exact st1))
      refine CW_cond_dec rfl (fun h => ?_) (fun h => ?_)
      · repeat (first | apply CW_seq | apply CW_region | apply RW_nil | apply thenQ_normal | apply thenQ_ret | apply thenQ_exit | apply blockQ_normal | apply blockQ_ret | apply blockQ_exit | (apply Xn; exact rfl) | apply CW_skip | apply CW_ret | apply CW_exit | apply CW_block | (apply CW_cf; exact rfl; exact bf) | (apply CW_ct; exact rfl; exact bt) | (apply RW_no; exact rfl; exact rfl; exact rfl; exact rfl; exact bn) | (apply RWu; exact rfl; exact rfl; exact rfl; exact rfl) | (apply RW_same; exact rfl; exact gk; exact op1) | (apply RW_box; exact rfl; exact gk; (first | exact T_alloc | exact T_boxA rfl | exact T_box1 rfl rfl); intro _) | (apply RW_st; exact gk; exact st1))
        first | refine rR (hs ++ F) (h := ?_) | refine rN (hs ++ F) (h := ?_)
        have hl : 1024 ≤ c.keys.length := by omega
        simp only [if_pos hl] at hsv
        exact ⟨hs, by rw [hsv]; rfl, by rw [hsv]; exact g, rfl⟩
      · have hl : ¬ 1024 ≤ c.keys.length := by omega
        simp only [if_neg hl] at hsv
        obtain ⟨_, xs1, hq1, hx1⟩ := ho1
        obtain ⟨_, xs2, hq2, hx2⟩ := ho2
        have hk3 := (hwp hkind).2.2.1
        have fin1 : ∀ a p h', OwnS 9 1 a (c.keys.length + 1) p (xs1 ++ [str name]) h' → Cop 9 m (.slice a (c.keys.length + 1) p) (c.keys ++ [name]) h' := fun a p h' hw => by
          have ho : OwnT 9 m a (c.keys ++ [name]).length p (c.keys ++ [name]) h' := ⟨rfl, _, hq1.append (RepL.single rfl), by rw [show (c.keys ++ [name]).length = c.keys.length + 1 by simp]; exact hw⟩
          exact ⟨_, _, by simp, ho.cap, ho⟩
        have fin2 : ∀ a p h', OwnS 33 3 a (c.vals.length + 1) p (xs2 ++ x.cs) h' → Cop 33 m (.slice a (c.vals.length + 1) p) (c.vals ++ [x]) h' := fun a p h' hw => by
          have ho : OwnT 33 m a (c.vals ++ [x]).length p (c.vals ++ [x]) h' := ⟨rfl, _, hq2.append (RepL.single rfl), by rw [show (c.vals ++ [x]).length = c.vals.length + 1 by simp]; exact hw⟩
          exact ⟨_, _, by simp, ho.cap, ho⟩
        have hlim : (c.keys ++ [name]).length ≤ 1000000 ∧ (c.vals ++ [x]).length ≤ 1000000 := by simp only [List.length_append, List.length_cons, List.length_nil]; omega
        have hlen : (c.keys ++ [name]).length = (c.vals ++ [x]).length := by simp only [List.length_append, List.length_cons, List.length_nil]; omega
        refine CW_draw (fun m' H' => (b9, box 31 [.int .i64 c.kind, .int .i64 c.a, .int .i64 c.b, .slice a1 c.keys.length p1, .slice a2 c.vals.length p2]) ∈ H' ∧ (b7, box 33 x.cs) ∈ H') 11 14 rfl (by kernel_rfl) ?_
        refine AW_take (i := 0) [11] rfl rfl rfl (by exact gk) (by kernel_rfl) (fun m' H' hSt => T_fieldAddr rfl) ?_
        refine AW_take (i := 1) [11] rfl rfl rfl (by exact gk) (by kernel_rfl) (fun m' H' hSt => T_load rfl (At.own hSt.1 rfl)) ?_
        refine AW_take (i := 2) [11] rfl rfl rfl (by exact gk) (by kernel_rfl) (fun m' H' hSt => T_move rfl) ?_
        refine AW_take (i := 5) [11] rfl rfl rfl (by exact gk) (by kernel_rfl) (fun m' H' hSt => T_fieldAddr rfl) ?_
        refine AW_take (i := 6) [11] rfl rfl rfl (by exact gk) (by kernel_rfl) (fun m' H' hSt => T_load rfl (At.own hSt.1 rfl)) ?_
        refine AW_take (i := 7) [11, 9, 8] rfl rfl rfl (by exact gk) (by kernel_rfl) (fun m' H' hSt => T_loadA rfl (Ats.own hSt.2) rfl) ?_
        refine AW_two (i := 3) (j := 8) (by kernel_rfl) (fun _ => ⟨by (repeat (first | exact List.Mem.head _ | apply List.Mem.tail | apply List.mem_append_right)), by (repeat (first | exact List.Mem.head _ | apply List.Mem.tail | apply List.mem_append_right))⟩) ?_ ?_
        · refine AWop_call rfl (by exact gk) rfl rfl (T_buildSlice (by rfl) (by decide) (by exact bd)) ?_
          rintro _ _ _ _ ⟨k3, rfl, rfl, rfl⟩
          refine AW_two (i := 4) (j := 8) (by kernel_rfl) (fun _ => ⟨by (repeat (first | exact List.Mem.head _ | apply List.Mem.tail | apply List.mem_append_right)), by (repeat (first | exact List.Mem.head _ | apply List.Mem.tail | apply List.mem_append_right))⟩) ?_ ?_
          · refine AWop_call rfl (by exact gk) rfl rfl (T_append (news := [str name]) (by rfl) rfl rfl hx1 (by repeat (first | exact pull_here | exact pull_end | apply pull_skip | apply pull_app)) (Ats.own (by (repeat (first | exact List.Mem.head _ | apply List.Mem.tail | apply List.mem_append_right)))) rfl rfl (by omega) (by omega)) ?_
            rintro _ _ _ _ ⟨a1', p1', h1', rfl, hw1, rfl, rfl⟩
            refine AW_take (i := 10) [11] rfl rfl rfl (by exact gk) (by kernel_rfl) (fun m' H' hSt => T_fieldAddr rfl) ?_
            refine AW_call (i := 8) (by kernel_rfl) (fun _ => ⟨by (repeat (first | exact List.Mem.head _ | apply List.Mem.tail | apply List.mem_append_right)), by (repeat (first | exact List.Mem.head _ | apply List.Mem.tail | apply List.mem_append_right))⟩) rfl (by exact gk) rfl rfl (T_buildSlice (by rfl) (by decide) (by exact bd)) ?_
            rintro _ _ _ _ ⟨k8, rfl, rfl, rfl⟩
            refine AW_call (i := 9) (by kernel_rfl) (fun _ => ⟨by (repeat (first | exact List.Mem.head _ | apply List.Mem.tail | apply List.mem_append_right)), by (repeat (first | exact List.Mem.head _ | apply List.Mem.tail | apply List.mem_append_right))⟩) rfl (by exact gk) rfl rfl (T_append (news := x.cs) (by rfl) rfl rfl hx2 (by repeat (first | exact pull_here | exact pull_end | apply pull_skip | apply pull_app)) (Ats.own (by (repeat (first | exact List.Mem.head _ | apply List.Mem.tail | apply List.mem_append_right)))) rfl rfl (by omega) (by omega)) ?_
            rintro _ _ _ _ ⟨a2', p2', h2', rfl, hw2, rfl, rfl⟩
            refine AW_st (i := 11) (by kernel_rfl) (fun _ => ⟨by (repeat (first | exact List.Mem.head _ | apply List.Mem.tail | apply List.mem_append_right)), by (repeat (first | exact List.Mem.head _ | apply List.Mem.tail | apply List.mem_append_right))⟩) rfl (by exact gk) rfl (T_store rfl rfl rfl rfl (by repeat (first | exact Upd.head | apply Upd.tail | apply Upd.app)) (by repeat (first | exact SetL.head | apply SetL.tail))) ?_
            refine AW_same (i := 12) (by kernel_rfl) (fun h => by cases h) rfl (by exact gk) rfl rfl (T_fieldAddr rfl) ?_
            refine AW_st (i := 13) (by kernel_rfl) (fun h => by cases h) rfl (by exact gk) rfl (T_store rfl rfl rfl rfl (by repeat (first | exact Upd.head | apply Upd.tail | apply Upd.app)) (by repeat (first | exact SetL.head | apply SetL.tail))) ?_
            refine AW_done (by kernel_rfl) (fun h => by cases h) ?_
            refine blockQ_normal ?_
            refine thenQ_normal ?_
            refine ⟨_, _, _, _, h1', h2', [(k3, box 9 [str name]), (k8, box 33 x.cs), (b7, box 33 x.cs)], by exact sb, rfl, ?_, fin1 _ _ _ hw1, fin2 _ _ _ hw2, hsv, hlim, hlen⟩
            exact pm
          · refine AWop_call rfl (by exact gk) rfl rfl (T_buildSlice (by rfl) (by decide) (by exact bd)) ?_
            rintro _ _ _ _ ⟨k8, rfl, rfl, rfl⟩
            refine AW_call (i := 4) (by kernel_rfl) (fun _ => ⟨by (repeat (first | exact List.Mem.head _ | apply List.Mem.tail | apply List.mem_append_right)), by (repeat (first | exact List.Mem.head _ | apply List.Mem.tail | apply List.mem_append_right))⟩) rfl (by exact gk) rfl rfl (T_append (news := [str name]) (by rfl) rfl rfl hx1 (by repeat (first | exact pull_here | exact pull_end | apply pull_skip | apply pull_app)) (Ats.own (by (repeat (first | exact List.Mem.head _ | apply List.Mem.tail | apply List.mem_append_right)))) rfl rfl (by omega) (by omega)) ?_
            rintro _ _ _ _ ⟨a1', p1', h1', rfl, hw1, rfl, rfl⟩
            refine AW_take (i := 10) [11] rfl rfl rfl (by exact gk) (by kernel_rfl) (fun m' H' hSt => T_fieldAddr rfl) ?_
            refine AW_call (i := 9) (by kernel_rfl) (fun _ => ⟨by (repeat (first | exact List.Mem.head _ | apply List.Mem.tail | apply List.mem_append_right)), by (repeat (first | exact List.Mem.head _ | apply List.Mem.tail | apply List.mem_append_right))⟩) rfl (by exact gk) rfl rfl (T_append (news := x.cs) (by rfl) rfl rfl hx2 (by repeat (first | exact pull_here | exact pull_end | apply pull_skip | apply pull_app)) (Ats.own (by (repeat (first | exact List.Mem.head _ | apply List.Mem.tail | apply List.mem_append_right)))) rfl rfl (by omega) (by omega)) ?_
            rintro _ _ _ _ ⟨a2', p2', h2', rfl, hw2, rfl, rfl⟩
            refine AW_st (i := 11) (by kernel_rfl) (fun _ => ⟨by (repeat (first | exact List.Mem.head _ | apply List.Mem.tail | apply List.mem_append_right)), by (repeat (first | exact List.Mem.head _ | apply List.Mem.tail | apply List.mem_append_right))⟩) rfl (by exact gk) rfl (T_store rfl rfl rfl rfl (by repeat (first | exact Upd.head | apply Upd.tail | apply Upd.app)) (by repeat (first | exact SetL.head | apply SetL.tail))) ?_
            refine AW_same (i := 12) (by kernel_rfl) (fun h => by cases h) rfl (by exact gk) rfl rfl (T_fieldAddr rfl) ?_
            refine AW_st (i := 13) (by kernel_rfl) (fun h => by cases h) rfl (by exact gk) rfl (T_store rfl rfl rfl rfl (by repeat (first | exact Upd.head | apply Upd.tail | apply Upd.app)) (by repeat (first | exact SetL.head | apply SetL.tail))) ?_
            refine AW_done (by kernel_rfl) (fun h => by cases h) ?_
            refine blockQ_normal ?_
            refine thenQ_normal ?_
            refine ⟨_, _, _, _, h1', h2', [(k3, box 9 [str name]), (k8, box 33 x.cs), (b7, box 33 x.cs)], by exact sb, rfl, ?_, fin1 _ _ _ hw1, fin2 _ _ _ hw2, hsv, hlim, hlen⟩
            exact pm
        · refine AWop_call rfl (by exact gk) rfl rfl (T_buildSlice (by rfl) (by decide) (by exact bd)) ?_
          rintro _ _ _ _ ⟨k8, rfl, rfl, rfl⟩
          refine AW_call (i := 3) (by kernel_rfl) (fun _ => ⟨by (repeat (first | exact List.Mem.head _ | apply List.Mem.tail | apply List.mem_append_right)), by (repeat (first | exact List.Mem.head _ | apply List.Mem.tail | apply List.mem_append_right))⟩) rfl (by exact gk) rfl rfl (T_buildSlice (by rfl) (by decide) (by exact bd)) ?_
          rintro _ _ _ _ ⟨k3, rfl, rfl, rfl⟩
          refine AW_call (i := 4) (by kernel_rfl) (fun _ => ⟨by (repeat (first | exact List.Mem.head _ | apply List.Mem.tail | apply List.mem_append_right)), by (repeat (first | exact List.Mem.head _ | apply List.Mem.tail | apply List.mem_append_right))⟩) rfl (by exact gk) rfl rfl (T_append (news := [str name]) (by rfl) rfl rfl hx1 (by repeat (first | exact pull_here | exact pull_end | apply pull_skip | apply pull_app)) (Ats.own (by (repeat (first | exact List.Mem.head _ | apply List.Mem.tail | apply List.mem_append_right)))) rfl rfl (by omega) (by omega)) ?_
          rintro _ _ _ _ ⟨a1', p1', h1', rfl, hw1, rfl, rfl⟩
          refine AW_take (i := 10) [11] rfl rfl rfl (by exact gk) (by kernel_rfl) (fun m' H' hSt => T_fieldAddr rfl) ?_
          refine AW_call (i := 9) (by kernel_rfl) (fun _ => ⟨by (repeat (first | exact List.Mem.head _ | apply List.Mem.tail | apply List.mem_append_right)), by (repeat (first | exact List.Mem.head _ | apply List.Mem.tail | apply List.mem_append_right))⟩) rfl (by exact gk) rfl rfl (T_append (news := x.cs) (by rfl) rfl rfl hx2 (by repeat (first | exact pull_here | exact pull_end | apply pull_skip | apply pull_app)) (Ats.own (by (repeat (first | exact List.Mem.head _ | apply List.Mem.tail | apply List.mem_append_right)))) rfl rfl (by omega) (by omega)) ?_
          rintro _ _ _ _ ⟨a2', p2', h2', rfl, hw2, rfl, rfl⟩
          refine AW_st (i := 11) (by kernel_rfl) (fun _ => ⟨by (repeat (first | exact List.Mem.head _ | apply List.Mem.tail | apply List.mem_append_right)), by (repeat (first | exact List.Mem.head _ | apply List.Mem.tail | apply List.mem_append_right))⟩) rfl (by exact gk) rfl (T_store rfl rfl rfl rfl (by repeat (first | exact Upd.head | apply Upd.tail | apply Upd.app)) (by repeat (first | exact SetL.head | apply SetL.tail))) ?_
          refine AW_same (i := 12) (by kernel_rfl) (fun h => by cases h) rfl (by exact gk) rfl rfl (T_fieldAddr rfl) ?_
          refine AW_st (i := 13) (by kernel_rfl) (fun h => by cases h) rfl (by exact gk) rfl (T_store rfl rfl rfl rfl (by repeat (first | exact Upd.head | apply Upd.tail | apply Upd.app)) (by repeat (first | exact SetL.head | apply SetL.tail))) ?_
          refine AW_done (by kernel_rfl) (fun h => by cases h) ?_
          refine blockQ_normal ?_
          refine thenQ_normal ?_
          refine ⟨_, _, _, _, h1', h2', [(k3, box 9 [str name]), (k8, box 33 x.cs), (b7, box 33 x.cs)], by exact sb, rfl, ?_, fin1 _ _ _ hw1, fin2 _ _ _ hw2, hsv, hlim, hlen⟩
          exact pm
  · rintro env' _ H' ⟨keys', vals', kv, vv, h1', h2', L, hsub, rfl, hperm, ⟨a1', p1', rfl, hp1', ho1'⟩, ⟨a2', p2', rfl, hp2', ho2'⟩, hsv, hlim, hlen⟩
    refine CW.keep _ hsub ?_
    refine CW.drop hperm ?_
    repeat (first | apply CW_seq | apply CW_region | apply RW_nil | apply thenQ_normal | apply thenQ_ret | apply thenQ_exit | apply blockQ_normal | apply blockQ_ret | apply blockQ_exit | (apply Xn; exact rfl) | apply CW_skip | apply CW_ret | apply CW_exit | apply CW_block | (apply CW_cf; exact rfl; exact bf) | (apply CW_ct; exact rfl; exact bt) | (apply RW_no; exact rfl; exact rfl; exact rfl; exact rfl; exact bn) | (apply RWu; exact rfl; exact rfl; exact rfl; exact rfl) | (apply RW_same; exact rfl; exact gk; exact op1) | (apply RW_box; exact rfl; exact gk; (first | exact T_alloc | exact T_boxA rfl | exact T_box1 rfl rfl); intro _) | (apply RW_st; exact gk; exact st1))
    refine RW.freeze ho1' (F := (b9, box 31 [.int .i64 c.kind, .int .i64 c.a, .int .i64 c.b, .slice a1' keys'.length p1', .slice a2' vals'.length p2']) :: (b5, box 33 v.cs) :: (h2' ++ (hs ++ F))) (by exact pm) fun m1 hle1 hs1 => ?_
    refine RW.freeze (ho2'.mono hle1) (F := (b9, box 31 [.int .i64 c.kind, .int .i64 c.a, .int .i64 c.b, .slice a1' keys'.length p1', .slice a2' vals'.length p2']) :: (b5, box 33 v.cs) :: (hs ++ F)) (by exact pm) fun m2 hle2 hs2 => ?_
    have g2 := (g.mono (hle1.trans hle2)).at_
    refine RW_call rfl (by exact gk) rfl (FnR.perm (H := hs ++ ((b9, box 31 _) :: (b5, box 33 v.cs) :: F)) (by exact pm) (heap_Store (c := { c with keys := keys', vals := vals' }) g2 hr.2 ⟨_, _, rfl, hp1', hs1.mono hle2⟩ ⟨_, _, rfl, hp2', hs2⟩ hlim)) ?_
    rintro _ _ _ _ ⟨hs', rfl, hat, rfl⟩
    repeat (first | apply CW_seq | apply CW_region | apply RW_nil | apply thenQ_normal | apply thenQ_ret | apply thenQ_exit | apply blockQ_normal | apply blockQ_ret | apply blockQ_exit | (apply Xn; exact rfl) | apply CW_skip | apply CW_ret | apply CW_exit | apply CW_block | (apply CW_cf; exact rfl; exact bf) | (apply CW_ct; exact rfl; exact bt) | (apply RW_no; exact rfl; exact rfl; exact rfl; exact rfl; exact bn) | (apply RWu; exact rfl; exact rfl; exact rfl; exact rfl) | (apply RW_same; exact rfl; exact gk; exact op1) | (apply RW_box; exact rfl; exact gk; (first | exact T_alloc | exact T_boxA rfl | exact T_box1 rfl rfl); intro _) | (apply RW_st; exact gk; exact st1))
    refine ret_rp [(b9, _), (b5, _)] (hs' ++ F) rfl (by exact rv) (by exact pm) ?_
    refine ⟨hs', ?_, ?_, rfl⟩
    · rw [hsv]; rfl
    · rw [hsv]
      exact ⟨hat, hset _ rfl rfl fun _ => hlen⟩
end Go.Proofs.YtbhpofplencjgaaDoor
