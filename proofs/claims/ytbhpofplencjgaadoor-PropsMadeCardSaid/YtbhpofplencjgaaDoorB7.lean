/- All cells of a heap. Conditions: none. -/
import Derived.Test.YtbhpofplencjgaaDoorB6
namespace Go.Proofs.YtbhpofplencjgaaDoor
open Go Go.WL
set_option linter.unusedSimpArgs false
set_option linter.unusedVariables false
attribute [local irreducible] OpP OpT RW CW AW FnR FnP BinR At thenQ blockQ bodyQ

theorem heap_Len {h : Nat} {m : Mem} {hs F : Hp} {cells : List Cel} (hh : HeapAt m h cells hs) :
    FnR Tryd.prog 46 #[.pointer (some ⟨h, 0, none⟩)] m (hs ++ F) fun v' m' H' => v' = .int .i64 cells.length ∧ m = m' ∧ H' = hs ++ F := by
  obtain ⟨bk, hs', rfl, hb⟩ := hh
  obtain ⟨_, hsm0, fam, a, cap, ps, hp, hq, rfl, h3, h4⟩ := hb
  simp only [List.append_assoc, List.cons_append, List.nil_append, List.append_nil]
  refine FnR.enter Tryd.func46 rfl Tryd.ntmps46 rfl fun s => ?_
  repeat (first | apply CW_seq | apply CW_region | apply RW_nil | apply thenQ_normal | apply thenQ_ret | apply thenQ_exit | apply blockQ_normal | apply blockQ_ret | apply blockQ_exit | (apply Xn; exact rfl) | apply CW_skip | apply CW_ret | apply CW_exit | apply CW_block | (apply CW_cf; exact rfl; exact bf) | (apply CW_ct; exact rfl; exact bt) | (apply RW_no; exact rfl; exact rfl; exact rfl; exact rfl; exact bn) | (apply RWu; exact rfl; exact rfl; exact rfl; exact rfl) | (apply RW_same; exact rfl; exact gk; exact op1) | (apply RW_box; exact rfl; exact gk; (first | exact T_alloc | exact T_boxA rfl | exact T_box1 rfl rfl); intro _) | (apply RW_st; exact gk; exact st1))
  refine RW_call rfl (by exact gk) rfl (heap_book (At.own (T := 60) (by (repeat (first | exact List.Mem.head _ | apply List.Mem.tail | apply List.mem_append_right))) rfl)) ?_
  rintro _ _ _ _ ⟨rfl, rfl, rfl⟩
  refine RW_call rfl (by exact gk) rfl (book_Len (At.own (T := 87) (by (repeat (first | exact List.Mem.head _ | apply List.Mem.tail | apply List.mem_append_right))) rfl)) ?_
  rintro _ _ _ _ ⟨rfl, rfl, rfl⟩
  repeat (first | apply CW_seq | apply CW_region | apply RW_nil | apply thenQ_normal | apply thenQ_ret | apply thenQ_exit | apply blockQ_normal | apply blockQ_ret | apply blockQ_exit | (apply Xn; exact rfl) | apply CW_skip | apply CW_ret | apply CW_exit | apply CW_block | (apply CW_cf; exact rfl; exact bf) | (apply CW_ct; exact rfl; exact bt) | (apply RW_no; exact rfl; exact rfl; exact rfl; exact rfl; exact bn) | (apply RWu; exact rfl; exact rfl; exact rfl; exact rfl) | (apply RW_same; exact rfl; exact gk; exact op1) | (apply RW_box; exact rfl; exact gk; (first | exact T_alloc | exact T_boxA rfl | exact T_box1 rfl rfl); intro _) | (apply RW_st; exact gk; exact st1))
  first | refine rR _ (hs := List.Sublist.refl _) (h := ?_) | refine rN _ (hs := List.Sublist.refl _) (h := ?_)
  exact ⟨rfl, rfl, rfl⟩

structure CsSt where
  i : Nat
  m : Mem
  a : Option Addr
  cap : Nat
  ho : Hp

theorem heap_Cells {hb : Nat} {m : Mem} {hs F : Hp} {cells : List Cel} (g : HeapAt m hb cells hs) :
    FnR Tryd.prog 21 #[.pointer (some ⟨hb, 0, none⟩)] m (hs ++ F) fun v' m' H' => SlV m' v' cells ∧ Mem.le m m' ∧ H' = hs ++ F := by
  have hn : cells.length ≤ 4096 := by obtain ⟨_, _, _, h⟩ := g; exact h.n
  refine FnR.enter Tryd.func21 rfl Tryd.ntmps21 rfl fun s => ?_
  repeat (first | apply CW_seq | apply CW_region | apply RW_nil | apply thenQ_normal | apply thenQ_ret | apply thenQ_exit | apply blockQ_normal | apply blockQ_ret | apply blockQ_exit | (apply Xn; exact rfl) | apply CW_skip | apply CW_ret | apply CW_exit | apply CW_block | (apply CW_cf; exact rfl; exact bf) | (apply CW_ct; exact rfl; exact bt) | (apply RW_no; exact rfl; exact rfl; exact rfl; exact rfl; exact bn) | (apply RWu; exact rfl; exact rfl; exact rfl; exact rfl) | (apply RW_same; exact rfl; exact gk; exact op1) | (apply RW_box; exact rfl; exact gk; (first | exact T_alloc | exact T_boxA rfl | exact T_box1 rfl rfl); intro _) | (apply RW_st; exact gk; exact st1))
  refine RW_call rfl (by exact gk) rfl (heap_Len g) ?_
  rintro _ _ _ _ ⟨rfl, rfl, rfl⟩
  repeat (first | apply CW_seq | apply CW_region | apply RW_nil | apply thenQ_normal | apply thenQ_ret | apply thenQ_exit | apply blockQ_normal | apply blockQ_ret | apply blockQ_exit | (apply Xn; exact rfl) | apply CW_skip | apply CW_ret | apply CW_exit | apply CW_block | (apply CW_cf; exact rfl; exact bf) | (apply CW_ct; exact rfl; exact bt) | (apply RW_no; exact rfl; exact rfl; exact rfl; exact rfl; exact bn) | (apply RWu; exact rfl; exact rfl; exact rfl; exact rfl) | (apply RW_same; exact rfl; exact gk; exact op1) | (apply RW_box; exact rfl; exact gk; (first | exact T_alloc | exact T_boxA rfl | exact T_box1 rfl rfl); intro _) | (apply RW_st; exact gk; exact st1))
  refine CW_loop (fun y : CsSt => [(0, .pointer (some ⟨hb, 0, none⟩)), (3, .slice y.a y.i y.cap), (8, .int .i64 cells.length), (9, .int .i64 y.i)]) (fun y => y.m) (fun y => y.ho ++ (hs ++ F))
    (fun y => y.i ≤ cells.length ∧ Mem.le m y.m ∧ OwnT 31 y.m y.a y.i y.cap (cells.take y.i) y.ho) (fun y => cells.length - y.i) ⟨0, m, none, 0, []⟩ (by exact sb) rfl (.refl _) ⟨Nat.zero_le _, Mem.le.refl m, OwnT.nil⟩ ?_
  rintro ⟨i, m1, a, cap, ho⟩ ⟨hi, hle, hown⟩
  dsimp only at hi hle hown ⊢
  repeat (first | apply CW_seq | apply CW_region | apply RW_nil | apply thenQ_normal | apply thenQ_ret | apply thenQ_exit | apply blockQ_normal | apply blockQ_ret | apply blockQ_exit | (apply Xn; exact rfl) | apply CW_skip | apply CW_ret | apply CW_exit | apply CW_block | (apply CW_cf; exact rfl; exact bf) | (apply CW_ct; exact rfl; exact bt) | (apply RW_no; exact rfl; exact rfl; exact rfl; exact rfl; exact bn) | (apply RWu; exact rfl; exact rfl; exact rfl; exact rfl) | (apply RW_same; exact rfl; exact gk; exact op1) | (apply RW_box; exact rfl; exact gk; (first | exact T_alloc | exact T_boxA rfl | exact T_box1 rfl rfl); intro _) | (apply RW_st; exact gk; exact st1))
  refine CW_cond_dec rfl (fun h => ?_) (fun h => ?_)
  · have hic : i < cells.length := by omega
    repeat (first | apply CW_seq | apply CW_region | apply RW_nil | apply thenQ_normal | apply thenQ_ret | apply thenQ_exit | apply blockQ_normal | apply blockQ_ret | apply blockQ_exit | (apply Xn; exact rfl) | apply CW_skip | apply CW_ret | apply CW_exit | apply CW_block | (apply CW_cf; exact rfl; exact bf) | (apply CW_ct; exact rfl; exact bt) | (apply RW_no; exact rfl; exact rfl; exact rfl; exact rfl; exact bn) | (apply RWu; exact rfl; exact rfl; exact rfl; exact rfl) | (apply RW_same; exact rfl; exact gk; exact op1) | (apply RW_box; exact rfl; exact gk; (first | exact T_alloc | exact T_boxA rfl | exact T_box1 rfl rfl); intro _) | (apply RW_st; exact gk; exact st1))
    have hLd := heap_Load (F := ho ++ F) (i := (i : Int) + 1) (g.mono hle) (by omega)
    have hx : ((i : Int) + 1 - 1).toNat = i := by omega
    simp only [hx] at hLd
    refine RW_call rfl (by exact gk) rfl (FnR.perm (by exact pm) hLd) ?_
    rintro _ _ _ _ ⟨kv, vv, h1, h2, rfl, ⟨a1, p1, rfl, hp1, ho1⟩, ⟨a2, p2, rfl, hp2, ho2⟩, rfl, rfl⟩
    refine RW.freeze ho2 (.refl _) fun m2 hle2 hs2 => ?_
    refine RW.freeze (ho1.mono hle2) (.refl _) fun m3 hle3 hs1 => ?_
    have hcell : Rep.cells m3 cells[i] [.int .i64 cells[i].kind, .int .i64 cells[i].a, .int .i64 cells[i].b, .slice a1 cells[i].keys.length p1, .slice a2 cells[i].vals.length p2] :=
      ⟨_, _, rfl, ⟨_, _, rfl, hp1, hs1⟩, ⟨_, _, rfl, hp2, hs2.mono hle3⟩⟩
    obtain ⟨hil, xs, hq, hx2⟩ := hown.mono (hle2.trans hle3)
    repeat (first | apply CW_seq | apply CW_region | apply RW_nil | apply thenQ_normal | apply thenQ_ret | apply thenQ_exit | apply blockQ_normal | apply blockQ_ret | apply blockQ_exit | (apply Xn; exact rfl) | apply CW_skip | apply CW_ret | apply CW_exit | apply CW_block | (apply CW_cf; exact rfl; exact bf) | (apply CW_ct; exact rfl; exact bt) | (apply RW_no; exact rfl; exact rfl; exact rfl; exact rfl; exact bn) | (apply RWu; exact rfl; exact rfl; exact rfl; exact rfl) | (apply RW_same; exact rfl; exact gk; exact op1) | (apply RW_box; exact rfl; exact gk; (first | exact T_alloc | exact T_boxA rfl | exact T_box1 rfl rfl); intro _) | (apply RW_st; exact gk; exact st1))
    rename_i b5
    refine RW_any rfl (by exact gk) (T_buildSlice (l' := [.int .i64 cells[i].kind, .int .i64 cells[i].a, .int .i64 cells[i].b, .slice a1 cells[i].keys.length p1, .slice a2 cells[i].vals.length p2]) (by rfl) (by decide) (by exact bd)) ?_
    rintro _ _ _ _ ⟨k8, rfl, rfl, rfl⟩
    refine RW_any rfl (by exact gk) (T_append (news := [.int .i64 cells[i].kind, .int .i64 cells[i].a, .int .i64 cells[i].b, .slice a1 cells[i].keys.length p1, .slice a2 cells[i].vals.length p2]) (by rfl) rfl rfl hx2 (by repeat (first | exact pull_here | exact pull_end | apply pull_skip | apply pull_app)) (Ats.own (by (repeat (first | exact List.Mem.head _ | apply List.Mem.tail | apply List.mem_append_right)))) rfl rfl (by omega) (by omega)) ?_
    rintro _ _ _ _ ⟨a', cap', h', rfl, hw, rfl, rfl⟩
    repeat (first | apply CW_seq | apply CW_region | apply RW_nil | apply thenQ_normal | apply thenQ_ret | apply thenQ_exit | apply blockQ_normal | apply blockQ_ret | apply blockQ_exit | (apply Xn; exact rfl) | apply CW_skip | apply CW_ret | apply CW_exit | apply CW_block | (apply CW_cf; exact rfl; exact bf) | (apply CW_ct; exact rfl; exact bt) | (apply RW_no; exact rfl; exact rfl; exact rfl; exact rfl; exact bn) | (apply RWu; exact rfl; exact rfl; exact rfl; exact rfl) | (apply RW_same; exact rfl; exact gk; exact op1) | (apply RW_box; exact rfl; exact gk; (first | exact T_alloc | exact T_boxA rfl | exact T_box1 rfl rfl); intro _) | (apply RW_st; exact gk; exact st1))
    have hO : OwnT 31 m3 a' (i + 1) cap' (cells.take (i + 1)) h' := by
      rw [List.take_succ_eq_append_getElem hic]
      refine ⟨by simp; omega, _, hq.append (RepL.single hcell), hw⟩
    refine ⟨⟨i + 1, m3, a', cap', h'⟩, ⟨hic, (hle.trans hle2).trans hle3, hO⟩, by show cells.length - (i + 1) < cells.length - i; omega, by exact sb, rfl, [(k8, box 31 [.int .i64 cells[i].kind, .int .i64 cells[i].a, .int .i64 cells[i].b, .slice a1 cells[i].keys.length p1, .slice a2 cells[i].vals.length p2]), (b5, box 31 [.int .i64 cells[i].kind, .int .i64 cells[i].a, .int .i64 cells[i].b, .slice a1 cells[i].keys.length p1, .slice a2 cells[i].vals.length p2])], by exact pm⟩
  · obtain rfl : i = cells.length := by omega
    rw [List.take_length] at hown
    repeat (first | apply CW_region | apply RW_nil | apply thenQ_normal | apply thenQ_ret | apply thenQ_exit | apply blockQ_normal | apply blockQ_ret | apply blockQ_exit | (apply Xn; exact rfl) | apply CW_skip | apply CW_ret | apply CW_exit | apply CW_block | (apply CW_cf; exact rfl; exact bf) | (apply CW_ct; exact rfl; exact bt) | (apply RW_no; exact rfl; exact rfl; exact rfl; exact rfl; exact bn) | (apply RWu; exact rfl; exact rfl; exact rfl; exact rfl) | (apply RW_same; exact rfl; exact gk; exact op1) | (apply RW_box; exact rfl; exact gk; (first | exact T_alloc | exact T_boxA rfl | exact T_box1 rfl rfl); intro _) | (apply RW_st; exact gk; exact st1))
    refine CW.freeze hown (.refl _) fun m2 hle2 hs2 => ?_
    repeat (first | apply CW_seq | apply CW_region | apply RW_nil | apply thenQ_normal | apply thenQ_ret | apply thenQ_exit | apply blockQ_normal | apply blockQ_ret | apply blockQ_exit | (apply Xn; exact rfl) | apply CW_skip | apply CW_ret | apply CW_exit | apply CW_block | (apply CW_cf; exact rfl; exact bf) | (apply CW_ct; exact rfl; exact bt) | (apply RW_no; exact rfl; exact rfl; exact rfl; exact rfl; exact bn) | (apply RWu; exact rfl; exact rfl; exact rfl; exact rfl) | (apply RW_same; exact rfl; exact gk; exact op1) | (apply RW_box; exact rfl; exact gk; (first | exact T_alloc | exact T_boxA rfl | exact T_box1 rfl rfl); intro _) | (apply RW_st; exact gk; exact st1))
    first | refine rR (hs ++ F) (h := ?_) | refine rN (hs ++ F) (h := ?_)
    exact ⟨⟨_, cap, rfl, hown.cap, hs2⟩, hle.trans hle2, rfl⟩
end Go.Proofs.YtbhpofplencjgaaDoor
