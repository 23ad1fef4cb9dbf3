/- The heap's functions. Conditions: none. -/
import Derived.Test.YtbhpofplencjgaaDoorP5
namespace Go.Proofs.YtbhpofplencjgaaDoor
open Go Go.WL
set_option linter.unusedSimpArgs false
set_option linter.unusedVariables false
attribute [local irreducible] OpP OpT RW CW AW FnR FnP BinR At thenQ blockQ bodyQ

/-- a heap: its cells -/
def HeapAt (m : Mem) (h : Nat) (cells : List Cel) (hs : Hp) : Prop := ∃ bk hs', hs = (h, box 60 [.pointer (some ⟨bk, 0, none⟩)]) :: hs' ∧ BookAt m bk cells hs'

theorem HeapAt.mono {m m' h cells hs} (hle : Mem.le m m') (hh : HeapAt m h cells hs) : HeapAt m' h cells hs := by
  obtain ⟨bk, hs', e, hb⟩ := hh
  exact ⟨bk, hs', e, hb.mono hle⟩

theorem heap_New {m : Mem} {F : Hp} : FnR Tryd.prog 6 #[] m F fun v m' H' => ∃ h hs, v = .pointer (some ⟨h, 0, none⟩) ∧ HeapAt m h [] hs ∧ m = m' ∧ H' = hs ++ F := by
  refine FnR.enter Tryd.func6 rfl Tryd.ntmps6 rfl fun s => ?_
  repeat (first | apply CW_seq | apply CW_region | apply RW_nil | apply thenQ_normal | apply thenQ_ret | apply thenQ_exit | apply blockQ_normal | apply blockQ_ret | apply blockQ_exit | (apply Xn; exact rfl) | apply CW_skip | apply CW_ret | apply CW_exit | apply CW_block | (apply CW_cf; exact rfl; exact bf) | (apply CW_ct; exact rfl; exact bt) | (apply RW_no; exact rfl; exact rfl; exact rfl; exact rfl; exact bn) | (apply RWu; exact rfl; exact rfl; exact rfl; exact rfl) | (apply RW_same; exact rfl; exact gk; exact op1) | (apply RW_box; exact rfl; exact gk; (first | exact T_alloc | exact T_boxA rfl | exact T_box1 rfl rfl); intro _) | (apply RW_st; exact gk; exact st1))
  refine RW_call rfl (by exact gk) rfl pages_New ?_
  rintro _ _ _ _ ⟨bk, hs, rfl, hb, rfl, rfl⟩
  repeat (first | apply CW_seq | apply CW_region | apply RW_nil | apply thenQ_normal | apply thenQ_ret | apply thenQ_exit | apply blockQ_normal | apply blockQ_ret | apply blockQ_exit | (apply Xn; exact rfl) | apply CW_skip | apply CW_ret | apply CW_exit | apply CW_block | (apply CW_cf; exact rfl; exact bf) | (apply CW_ct; exact rfl; exact bt) | (apply RW_no; exact rfl; exact rfl; exact rfl; exact rfl; exact bn) | (apply RWu; exact rfl; exact rfl; exact rfl; exact rfl) | (apply RW_same; exact rfl; exact gk; exact op1) | (apply RW_box; exact rfl; exact gk; (first | exact T_alloc | exact T_boxA rfl | exact T_box1 rfl rfl); intro _) | (apply RW_st; exact gk; exact st1))
  rename_i h
  first | refine rR _ (hs := List.Sublist.refl _) (h := ?_) | refine rN _ (hs := List.Sublist.refl _) (h := ?_)
  exact ⟨h, (h, box 60 [.pointer (some ⟨bk, 0, none⟩)]) :: hs, rfl, ⟨bk, hs, rfl, hb⟩, rfl, rfl⟩

theorem heap_book {h : Nat} {v : Value} {m : Mem} {H : Hp} (hh : At m H h 0 v) :
    FnR Tryd.prog 23 #[.pointer (some ⟨h, 0, none⟩)] m H fun v' m' H' => v' = v ∧ m = m' ∧ H = H' := by
  refine FnR.enter Tryd.func23 rfl Tryd.ntmps23 rfl fun s => ?_
  repeat (first | apply CW_seq | apply CW_region | apply RW_nil | apply thenQ_normal | apply thenQ_ret | apply thenQ_exit | apply blockQ_normal | apply blockQ_ret | apply blockQ_exit | (apply Xn; exact rfl) | apply CW_skip | apply CW_ret | apply CW_exit | apply CW_block | (apply CW_cf; exact rfl; exact bf) | (apply CW_ct; exact rfl; exact bt) | (apply RW_no; exact rfl; exact rfl; exact rfl; exact rfl; exact bn) | (apply RWu; exact rfl; exact rfl; exact rfl; exact rfl) | (apply RW_same; exact rfl; exact gk; exact op1) | (apply RW_box; exact rfl; exact gk; (first | exact T_alloc | exact T_boxA rfl | exact T_box1 rfl rfl); intro _) | (apply RW_st; exact gk; exact st1))
  first | refine rR _ (hs := List.Sublist.refl _) (h := ?_) | refine rN _ (hs := List.Sublist.refl _) (h := ?_)
  exact ⟨rfl, rfl, rfl⟩

theorem BookAt.nAt {m bk cells hs} (h : BookAt m bk cells hs) : ∃ f p, (bk, box 87 [f, p, .int .i64 cells.length, .bool false]) ∈ hs := by
  obtain ⟨_, _, fam, a, cap, ps, hp, hq, rfl, _, _⟩ := h
  exact ⟨_, _, List.Mem.head _⟩

theorem heap_Load {h : Nat} {i : Int} {m : Mem} {hs F : Hp} {cells : List Cel} (hh : HeapAt m h cells hs) (hi : 1 ≤ i ∧ i ≤ cells.length) :
    FnR Tryd.prog 33 #[.pointer (some ⟨h, 0, none⟩), .int .i64 i] m (hs ++ F) fun v m' H' => ∃ kv vv h1 h2,
      v = .tuple #[.agg #[.int .i64 (cells[(i - 1).toNat]'(by omega)).kind, .int .i64 (cells[(i - 1).toNat]'(by omega)).a, .int .i64 (cells[(i - 1).toNat]'(by omega)).b, kv, vv], .int .i64 0] ∧
      Cop 9 m kv (cells[(i - 1).toNat]'(by omega)).keys h1 ∧ Cop 33 m vv (cells[(i - 1).toNat]'(by omega)).vals h2 ∧ m = m' ∧ H' = h2 ++ (h1 ++ (hs ++ F)) := by
  obtain ⟨bk, hs', rfl, hb⟩ := hh
  have hn := hb.n
  simp only [List.append_assoc, List.cons_append, List.nil_append, List.append_nil]
  refine FnR.enter Tryd.func33 rfl Tryd.ntmps33 rfl fun s => ?_
  repeat (first | apply CW_seq | apply CW_region | apply RW_nil | apply thenQ_normal | apply thenQ_ret | apply thenQ_exit | apply blockQ_normal | apply blockQ_ret | apply blockQ_exit | (apply Xn; exact rfl) | apply CW_skip | apply CW_ret | apply CW_exit | apply CW_block | (apply CW_cf; exact rfl; exact bf) | (apply CW_ct; exact rfl; exact bt) | (apply RW_no; exact rfl; exact rfl; exact rfl; exact rfl; exact bn) | (apply RWu; exact rfl; exact rfl; exact rfl; exact rfl) | (apply RW_same; exact rfl; exact gk; exact op1) | (apply RW_box; exact rfl; exact gk; (first | exact T_alloc | exact T_boxA rfl | exact T_box1 rfl rfl); intro _) | (apply RW_st; exact gk; exact st1))
  rename_i br
  refine RW_call rfl (by exact gk) rfl (heap_book (At.own (T := 60) (by (repeat (first | exact List.Mem.head _ | apply List.Mem.tail | apply List.mem_append_right))) rfl)) ?_
  rintro _ _ _ _ ⟨rfl, rfl, rfl⟩
  repeat (first | apply CW_seq | apply CW_region | apply RW_nil | apply thenQ_normal | apply thenQ_ret | apply thenQ_exit | apply blockQ_normal | apply blockQ_ret | apply blockQ_exit | (apply Xn; exact rfl) | apply CW_skip | apply CW_ret | apply CW_exit | apply CW_block | (apply CW_cf; exact rfl; exact bf) | (apply CW_ct; exact rfl; exact bt) | (apply RW_no; exact rfl; exact rfl; exact rfl; exact rfl; exact bn) | (apply RWu; exact rfl; exact rfl; exact rfl; exact rfl) | (apply RW_same; exact rfl; exact gk; exact op1) | (apply RW_box; exact rfl; exact gk; (first | exact T_alloc | exact T_boxA rfl | exact T_box1 rfl rfl); intro _) | (apply RW_st; exact gk; exact st1))
  refine RW_call rfl (by exact gk) rfl (FnR.perm (H := hs' ++ ((br, _) :: (h, _) :: F)) (by exact pm) (book_Get hb (by omega))) ?_
  rintro _ _ _ _ ⟨kv, vv, h1, h2, rfl, hc1, hc2, rfl, rfl⟩
  obtain ⟨a1, p1, rfl, hp1, ho1⟩ := hc1
  obtain ⟨a2, p2, rfl, hp2, ho2⟩ := hc2
  repeat (first | apply CW_seq | apply CW_region | apply RW_nil | apply thenQ_normal | apply thenQ_ret | apply thenQ_exit | apply blockQ_normal | apply blockQ_ret | apply blockQ_exit | (apply Xn; exact rfl) | apply CW_skip | apply CW_ret | apply CW_exit | apply CW_block | (apply CW_cf; exact rfl; exact bf) | (apply CW_ct; exact rfl; exact bt) | (apply RW_no; exact rfl; exact rfl; exact rfl; exact rfl; exact bn) | (apply RWu; exact rfl; exact rfl; exact rfl; exact rfl) | (apply RW_same; exact rfl; exact gk; exact op1) | (apply RW_box; exact rfl; exact gk; (first | exact T_alloc | exact T_boxA rfl | exact T_box1 rfl rfl); intro _) | (apply RW_st; exact gk; exact st1))
  refine ret_rp [(br, _)] (h2 ++ (h1 ++ (h, box 60 [.pointer (some ⟨bk, 0, none⟩)]) :: (hs' ++ F))) rfl (by exact rv) (by exact pm) ?_
  exact ⟨_, _, h1, h2, rfl, ⟨_, _, rfl, hp1, ho1⟩, ⟨_, _, rfl, hp2, ho2⟩, rfl, rfl⟩

theorem heap_Load_no {h : Nat} {i : Int} {m : Mem} {hs F : Hp} {cells : List Cel} (hh : HeapAt m h cells hs) (hi : ¬ (1 ≤ i ∧ i ≤ cells.length)) (hr : -9223372036854775808 < i) (hr' : i ≤ 9223372036854775807) :
    FnR Tryd.prog 33 #[.pointer (some ⟨h, 0, none⟩), .int .i64 i] m (hs ++ F) fun v m' H' =>
      v = .tuple #[.agg #[.int .i64 0, .int .i64 0, .int .i64 0, .slice none 0 0, .slice none 0 0], .int .i64 2] ∧ m = m' ∧ H' = hs ++ F := by
  obtain ⟨bk, hs', rfl, hb⟩ := hh
  have hn := hb.n
  obtain ⟨f, p, hmem⟩ := hb.nAt
  simp only [List.append_assoc, List.cons_append, List.nil_append, List.append_nil]
  refine FnR.enter Tryd.func33 rfl Tryd.ntmps33 rfl fun s => ?_
  repeat (first | apply CW_seq | apply CW_region | apply RW_nil | apply thenQ_normal | apply thenQ_ret | apply thenQ_exit | apply blockQ_normal | apply blockQ_ret | apply blockQ_exit | (apply Xn; exact rfl) | apply CW_skip | apply CW_ret | apply CW_exit | apply CW_block | (apply CW_cf; exact rfl; exact bf) | (apply CW_ct; exact rfl; exact bt) | (apply RW_no; exact rfl; exact rfl; exact rfl; exact rfl; exact bn) | (apply RWu; exact rfl; exact rfl; exact rfl; exact rfl) | (apply RW_same; exact rfl; exact gk; exact op1) | (apply RW_box; exact rfl; exact gk; (first | exact T_alloc | exact T_boxA rfl | exact T_box1 rfl rfl); intro _) | (apply RW_st; exact gk; exact st1))
  rename_i br
  refine RW_call rfl (by exact gk) rfl (heap_book (At.own (T := 60) (by (repeat (first | exact List.Mem.head _ | apply List.Mem.tail | apply List.mem_append_right))) rfl)) ?_
  rintro _ _ _ _ ⟨rfl, rfl, rfl⟩
  repeat (first | apply CW_seq | apply CW_region | apply RW_nil | apply thenQ_normal | apply thenQ_ret | apply thenQ_exit | apply blockQ_normal | apply blockQ_ret | apply blockQ_exit | (apply Xn; exact rfl) | apply CW_skip | apply CW_ret | apply CW_exit | apply CW_block | (apply CW_cf; exact rfl; exact bf) | (apply CW_ct; exact rfl; exact bt) | (apply RW_no; exact rfl; exact rfl; exact rfl; exact rfl; exact bn) | (apply RWu; exact rfl; exact rfl; exact rfl; exact rfl) | (apply RW_same; exact rfl; exact gk; exact op1) | (apply RW_box; exact rfl; exact gk; (first | exact T_alloc | exact T_boxA rfl | exact T_box1 rfl rfl); intro _) | (apply RW_st; exact gk; exact st1))
  refine RW_call rfl (by exact gk) rfl (book_Get_no (At.own (T := 87) (List.Mem.tail _ (List.Mem.tail _ (List.mem_append_left _ hmem))) rfl) (by omega)) ?_
  rintro _ _ _ _ ⟨rfl, rfl, rfl⟩
  repeat (first | apply CW_seq | apply CW_region | apply RW_nil | apply thenQ_normal | apply thenQ_ret | apply thenQ_exit | apply blockQ_normal | apply blockQ_ret | apply blockQ_exit | (apply Xn; exact rfl) | apply CW_skip | apply CW_ret | apply CW_exit | apply CW_block | (apply CW_cf; exact rfl; exact bf) | (apply CW_ct; exact rfl; exact bt) | (apply RW_no; exact rfl; exact rfl; exact rfl; exact rfl; exact bn) | (apply RWu; exact rfl; exact rfl; exact rfl; exact rfl) | (apply RW_same; exact rfl; exact gk; exact op1) | (apply RW_box; exact rfl; exact gk; (first | exact T_alloc | exact T_boxA rfl | exact T_box1 rfl rfl); intro _) | (apply RW_st; exact gk; exact st1))
  first | refine rR ((h, box 60 [.pointer (some ⟨bk, 0, none⟩)]) :: (hs' ++ F)) (h := ?_) | refine rN ((h, box 60 [.pointer (some ⟨bk, 0, none⟩)]) :: (hs' ++ F)) (h := ?_)
  exact ⟨rfl, rfl, rfl⟩

theorem heap_Alloc {h : Nat} {m : Mem} {hs F : Hp} {cells : List Cel} {c : Cel} {kv vv : Value} (hh : HeapAt m h cells hs) (hn : cells.length < 4096) (hkv : SlV m kv c.keys) (hvv : SlV m vv c.vals) (hsm : Small c) :
    FnR Tryd.prog 7 #[.pointer (some ⟨h, 0, none⟩), .agg #[.int .i64 c.kind, .int .i64 c.a, .int .i64 c.b, kv, vv]] m (hs ++ F) fun v m' H' => ∃ hs',
      v = .tuple #[.int .i64 (cells.length + 1), .int .i64 0] ∧ HeapAt m' h (cells ++ [c]) hs' ∧ H' = hs' ++ F := by
  obtain ⟨bk, hs', rfl, hb⟩ := hh
  simp only [List.append_assoc, List.cons_append, List.nil_append, List.append_nil]
  refine FnR.enter Tryd.func7 rfl Tryd.ntmps7 rfl fun s => ?_
  repeat (first | apply CW_seq | apply CW_region | apply RW_nil | apply thenQ_normal | apply thenQ_ret | apply thenQ_exit | apply blockQ_normal | apply blockQ_ret | apply blockQ_exit | (apply Xn; exact rfl) | apply CW_skip | apply CW_ret | apply CW_exit | apply CW_block | (apply CW_cf; exact rfl; exact bf) | (apply CW_ct; exact rfl; exact bt) | (apply RW_no; exact rfl; exact rfl; exact rfl; exact rfl; exact bn) | (apply RWu; exact rfl; exact rfl; exact rfl; exact rfl) | (apply RW_same; exact rfl; exact gk; exact op1) | (apply RW_box; exact rfl; exact gk; (first | exact T_alloc | exact T_boxA rfl | exact T_box1 rfl rfl); intro _) | (apply RW_st; exact gk; exact st1))
  rename_i bx
  refine CW_draw (fun m' H' => (bx, box 31 [.int .i64 c.kind, .int .i64 c.a, .int .i64 c.b, kv, vv]) ∈ H') 8 9 rfl (by kernel_rfl) ?_
  refine AW_take (i := 0) [8] rfl rfl rfl (by exact gk) (by kernel_rfl) (fun m' H' hSt => T_move rfl) ?_
  refine AW_take (i := 2) [8] rfl rfl rfl (by exact gk) (by kernel_rfl) (fun m' H' hSt => T_loadA rfl (Ats.own hSt) rfl) ?_
  refine AW_call (i := 1) (by kernel_rfl) (fun _ => by (repeat (first | exact List.Mem.head _ | apply List.Mem.tail | apply List.mem_append_right))) rfl (by exact gk) rfl rfl (T_call rfl (heap_book (At.own (T := 60) (by (repeat (first | exact List.Mem.head _ | apply List.Mem.tail | apply List.mem_append_right))) rfl))) ?_
  rintro _ _ _ _ ⟨rfl, rfl, rfl⟩
  refine AW_call (i := 3) (by kernel_rfl) (fun _ => by (repeat (first | exact List.Mem.head _ | apply List.Mem.tail | apply List.mem_append_right))) rfl (by exact gk) rfl rfl (T_call rfl (FnR.perm (H := hs' ++ ((bx, box 31 [.int .i64 c.kind, .int .i64 c.a, .int .i64 c.b, kv, vv]) :: (h, box 60 [.pointer (some ⟨bk, 0, none⟩)]) :: F)) (by exact pm) (book_Add hb hn hkv hvv hsm))) ?_
  rintro _ m1 _ hle ⟨hs1, rfl, hb1, rfl⟩
  refine AW_take (i := 4) [8] rfl rfl rfl (by exact gk) (by kernel_rfl) (fun m' H' hSt => T_move rfl) ?_
  refine AW_take (i := 5) [8] rfl rfl rfl (by exact gk) (by kernel_rfl) (fun m' H' hSt => T_extract rfl rfl) ?_
  refine AW_take (i := 6) [8] rfl rfl rfl (by exact gk) (by kernel_rfl) (fun m' H' hSt => T_extract rfl rfl) ?_
  refine AW_same (i := 7) (by kernel_rfl) (fun _ => by (repeat (first | exact List.Mem.head _ | apply List.Mem.tail | apply List.mem_append_right))) rfl (by exact gk) rfl rfl (T_assign rfl) ?_
  refine AW_same (i := 8) (by kernel_rfl) (fun _ => by (repeat (first | exact List.Mem.head _ | apply List.Mem.tail | apply List.mem_append_right))) rfl (by exact gk) rfl rfl (T_assign rfl) ?_
  refine AW_done (by kernel_rfl) (fun h => by cases h) ?_
  repeat (first | apply CW_seq | apply CW_region | apply RW_nil | apply thenQ_normal | apply thenQ_ret | apply thenQ_exit | apply blockQ_normal | apply blockQ_ret | apply blockQ_exit | (apply Xn; exact rfl) | apply CW_skip | apply CW_ret | apply CW_exit | apply CW_block | (apply CW_cf; exact rfl; exact bf) | (apply CW_ct; exact rfl; exact bt) | (apply RW_no; exact rfl; exact rfl; exact rfl; exact rfl; exact bn) | (apply RWu; exact rfl; exact rfl; exact rfl; exact rfl) | (apply RW_same; exact rfl; exact gk; exact op1) | (apply RW_box; exact rfl; exact gk; (first | exact T_alloc | exact T_boxA rfl | exact T_box1 rfl rfl); intro _) | (apply RW_st; exact gk; exact st1))
  refine ret_rp [(bx, box 31 [.int .i64 c.kind, .int .i64 c.a, .int .i64 c.b, kv, vv])] (((h, box 60 [.pointer (some ⟨bk, 0, none⟩)]) :: hs1) ++ F) rfl (by exact rv) (by exact pm) ?_
  exact ⟨_, rfl, ⟨bk, hs1, rfl, hb1⟩, rfl⟩

theorem heap_Store {h : Nat} {i : Int} {m : Mem} {hs F : Hp} {cells : List Cel} {c : Cel} {kv vv : Value} (hh : HeapAt m h cells hs) (hi : 1 ≤ i ∧ i ≤ cells.length) (hkv : SlV m kv c.keys) (hvv : SlV m vv c.vals) (hsm : Small c) :
    FnR Tryd.prog 28 #[.pointer (some ⟨h, 0, none⟩), .int .i64 i, .agg #[.int .i64 c.kind, .int .i64 c.a, .int .i64 c.b, kv, vv]] m (hs ++ F) fun v m' H' => ∃ hs',
      v = .int .i64 0 ∧ HeapAt m' h (cells.set (i - 1).toNat c) hs' ∧ H' = hs' ++ F := by
  obtain ⟨bk, hs', rfl, hb⟩ := hh
  have hn := hb.n
  simp only [List.append_assoc, List.cons_append, List.nil_append, List.append_nil]
  refine FnR.enter Tryd.func28 rfl Tryd.ntmps28 rfl fun s => ?_
  repeat (first | apply CW_seq | apply CW_region | apply RW_nil | apply thenQ_normal | apply thenQ_ret | apply thenQ_exit | apply blockQ_normal | apply blockQ_ret | apply blockQ_exit | (apply Xn; exact rfl) | apply CW_skip | apply CW_ret | apply CW_exit | apply CW_block | (apply CW_cf; exact rfl; exact bf) | (apply CW_ct; exact rfl; exact bt) | (apply RW_no; exact rfl; exact rfl; exact rfl; exact rfl; exact bn) | (apply RWu; exact rfl; exact rfl; exact rfl; exact rfl) | (apply RW_same; exact rfl; exact gk; exact op1) | (apply RW_box; exact rfl; exact gk; (first | exact T_alloc | exact T_boxA rfl | exact T_box1 rfl rfl); intro _) | (apply RW_st; exact gk; exact st1))
  rename_i bx
  refine CW_draw (fun m' H' => (bx, box 31 [.int .i64 c.kind, .int .i64 c.a, .int .i64 c.b, kv, vv]) ∈ H') 6 7 rfl (by kernel_rfl) ?_
  refine AW_take (i := 0) [6] rfl rfl rfl (by exact gk) (by kernel_rfl) (fun m' H' hSt => T_move rfl) ?_
  refine AW_take (i := 2) [6] rfl rfl rfl (by exact gk) (by kernel_rfl) (fun m' H' hSt => T_move rfl) ?_
  refine AW_take (i := 3) [6] rfl rfl rfl (by exact gk) (by kernel_rfl) (fun m' H' hSt => T_bin rfl rfl (BinR.sub (by omega))) ?_
  refine AW_take (i := 4) [6] rfl rfl rfl (by exact gk) (by kernel_rfl) (fun m' H' hSt => T_loadA rfl (Ats.own hSt) rfl) ?_
  refine AW_call (i := 1) (by kernel_rfl) (fun _ => by (repeat (first | exact List.Mem.head _ | apply List.Mem.tail | apply List.mem_append_right))) rfl (by exact gk) rfl rfl (T_call rfl (heap_book (At.own (T := 60) (by (repeat (first | exact List.Mem.head _ | apply List.Mem.tail | apply List.mem_append_right))) rfl))) ?_
  rintro _ _ _ _ ⟨rfl, rfl, rfl⟩
  refine AW_call (i := 5) (by kernel_rfl) (fun _ => by (repeat (first | exact List.Mem.head _ | apply List.Mem.tail | apply List.mem_append_right))) rfl (by exact gk) rfl rfl (T_call rfl (FnR.perm (H := hs' ++ ((bx, box 31 [.int .i64 c.kind, .int .i64 c.a, .int .i64 c.b, kv, vv]) :: (h, box 60 [.pointer (some ⟨bk, 0, none⟩)]) :: F)) (by exact pm) (book_Set hb (by omega) hkv hvv hsm))) ?_
  rintro _ m1 _ hle ⟨hs1, rfl, hb1, rfl⟩
  refine AW_same (i := 6) (by kernel_rfl) (fun _ => by (repeat (first | exact List.Mem.head _ | apply List.Mem.tail | apply List.mem_append_right))) rfl (by exact gk) rfl rfl (T_assign rfl) ?_
  refine AW_done (by kernel_rfl) (fun h => by cases h) ?_
  repeat (first | apply CW_seq | apply CW_region | apply RW_nil | apply thenQ_normal | apply thenQ_ret | apply thenQ_exit | apply blockQ_normal | apply blockQ_ret | apply blockQ_exit | (apply Xn; exact rfl) | apply CW_skip | apply CW_ret | apply CW_exit | apply CW_block | (apply CW_cf; exact rfl; exact bf) | (apply CW_ct; exact rfl; exact bt) | (apply RW_no; exact rfl; exact rfl; exact rfl; exact rfl; exact bn) | (apply RWu; exact rfl; exact rfl; exact rfl; exact rfl) | (apply RW_same; exact rfl; exact gk; exact op1) | (apply RW_box; exact rfl; exact gk; (first | exact T_alloc | exact T_boxA rfl | exact T_box1 rfl rfl); intro _) | (apply RW_st; exact gk; exact st1))
  refine ret_rp [(bx, box 31 [.int .i64 c.kind, .int .i64 c.a, .int .i64 c.b, kv, vv])] (((h, box 60 [.pointer (some ⟨bk, 0, none⟩)]) :: hs1) ++ F) rfl (by exact rv) (by exact pm) ?_
  exact ⟨_, rfl, ⟨bk, hs1, rfl, hb1⟩, rfl⟩
end Go.Proofs.YtbhpofplencjgaaDoor
