/- What values and cells are in memory; clones of slices, of a cell. Conditions: none. -/
import Derived.Test.YtbhpofplencjgaaDoorLA
import Derived.Test.YtbhpofplencjgaaDoorTy
namespace Go.Proofs.YtbhpofplencjgaaDoor
open Go Go.WL
set_option linter.unusedSimpArgs false
set_option linter.unusedVariables false
attribute [local irreducible] OpP OpT RW CW AW FnR FnP BinR At thenQ blockQ bodyQ

/-- a value of a program; a cell of a heap -/
structure Val where
  k : Int
  n : Int
  s : List UInt8
  deriving DecidableEq
structure Cel where
  kind : Int
  a : Int
  b : Int
  keys : List (List UInt8)
  vals : List Val
  deriving DecidableEq

abbrev Val.cs (x : Val) : List Value := [.int .i64 x.k, .int .i64 x.n, str x.s]

instance : Rep Val where
  sz := 3
  cells _ x cs := cs = x.cs
  len h := by subst h; rfl
  mono _ h := h
  one h := by subst h; rfl
instance : Rep (List UInt8) where
  sz := 1
  cells _ x cs := cs = [str x]
  len h := by subst h; rfl
  mono _ h := h
  one h := by subst h; rfl

instance : Rep Cel where
  sz := 5
  cells m x cs := ∃ kv vv, cs = [.int .i64 x.kind, .int .i64 x.a, .int .i64 x.b, kv, vv] ∧ SlV m kv x.keys ∧ SlV m vv x.vals
  len h := by obtain ⟨kv, vv, rfl, _⟩ := h; rfl
  mono hle h := by obtain ⟨kv, vv, e, h1, h2⟩ := h; exact ⟨kv, vv, e, h1.mono hle, h2.mono hle⟩
  one h := by
    obtain ⟨kv, vv, rfl, ⟨a, cap, rfl, _⟩, ⟨a', cap', rfl, _⟩⟩ := h
    rfl

theorem clone_strings {m H} {v : Value} {l : List (List UInt8)} (h : SlV m v l) (hl : l.length ≤ 1000000) :
    FnR Tryd.prog 61 #[v] m H fun v' m' H' => ∃ hs, Cop 9 m v' l hs ∧ m = m' ∧ H' = hs ++ H := by
  obtain ⟨a, cap, rfl, hc, hs⟩ := h
  refine FnR.enter Tryd.func61 rfl Tryd.ntmps61 rfl fun s => ?_
  repeat (first | apply CW_seq | apply CW_region | apply RW_nil | apply thenQ_normal | apply thenQ_ret | apply thenQ_exit | apply blockQ_normal | apply blockQ_ret | apply blockQ_exit | (apply Xn; exact rfl) | apply CW_skip | apply CW_ret | apply CW_exit | apply CW_block | (apply CW_cf; exact rfl; exact bf) | (apply CW_ct; exact rfl; exact bt) | (apply RW_no; exact rfl; exact rfl; exact rfl; exact rfl; exact bn) | (apply RWu; exact rfl; exact rfl; exact rfl; exact rfl) | (apply RW_same; exact rfl; exact gk; exact op1) | (apply RW_box; exact rfl; exact gk; (first | exact T_alloc | exact T_boxA rfl | exact T_box1 rfl rfl); intro _) | (apply RW_st; exact gk; exact st1))
  cases a with
  | none =>
    obtain ⟨xs, h1, rfl | ⟨b, o, e, _⟩⟩ := hs
    · repeat (first | apply CW_seq | apply CW_region | apply RW_nil | apply thenQ_normal | apply thenQ_ret | apply thenQ_exit | apply blockQ_normal | apply blockQ_ret | apply blockQ_exit | (apply Xn; exact rfl) | apply CW_skip | apply CW_ret | apply CW_exit | apply CW_block | (apply CW_cf; exact rfl; exact bf) | (apply CW_ct; exact rfl; exact bt) | (apply RW_no; exact rfl; exact rfl; exact rfl; exact rfl; exact bn) | (apply RWu; exact rfl; exact rfl; exact rfl; exact rfl) | (apply RW_same; exact rfl; exact gk; exact op1) | (apply RW_box; exact rfl; exact gk; (first | exact T_alloc | exact T_boxA rfl | exact T_box1 rfl rfl); intro _) | (apply RW_st; exact gk; exact st1))
      first | refine rR _ (hs := List.Sublist.refl _) (h := ?_) | refine rN _ (hs := List.Sublist.refl _) (h := ?_)
      exact ⟨[], ⟨none, 0, rfl, Nat.le_refl _, OwnT.nil⟩, rfl, rfl⟩
    · cases e
  | some ad =>
    repeat (first | apply CW_seq | apply CW_region | apply RW_nil | apply thenQ_normal | apply thenQ_ret | apply thenQ_exit | apply blockQ_normal | apply blockQ_ret | apply blockQ_exit | (apply Xn; exact rfl) | apply CW_skip | apply CW_ret | apply CW_exit | apply CW_block | (apply CW_cf; exact rfl; exact bf) | (apply CW_ct; exact rfl; exact bt) | (apply RW_no; exact rfl; exact rfl; exact rfl; exact rfl; exact bn) | (apply RWu; exact rfl; exact rfl; exact rfl; exact rfl) | (apply RW_same; exact rfl; exact gk; exact op1) | (apply RW_box; exact rfl; exact gk; (first | exact T_alloc | exact T_boxA rfl | exact T_box1 rfl rfl); intro _) | (apply RW_st; exact gk; exact st1))
    refine RW_any rfl (by exact gk) (T_buildSlice (by rfl) (by decide) (by exact bd)) ?_
    rintro _ _ _ _ ⟨b, rfl, rfl, rfl⟩
    repeat (first | apply CW_seq | apply CW_region | apply RW_nil | apply thenQ_normal | apply thenQ_ret | apply thenQ_exit | apply blockQ_normal | apply blockQ_ret | apply blockQ_exit | (apply Xn; exact rfl) | apply CW_skip | apply CW_ret | apply CW_exit | apply CW_block | (apply CW_cf; exact rfl; exact bf) | (apply CW_ct; exact rfl; exact bt) | (apply RW_no; exact rfl; exact rfl; exact rfl; exact rfl; exact bn) | (apply RWu; exact rfl; exact rfl; exact rfl; exact rfl) | (apply RW_same; exact rfl; exact gk; exact op1) | (apply RW_box; exact rfl; exact gk; (first | exact T_alloc | exact T_boxA rfl | exact T_box1 rfl rfl); intro _) | (apply RW_st; exact gk; exact st1))
    obtain ⟨xs, h1, rfl | ⟨b2, o2, e, h2⟩⟩ := hs
    · refine RW_same rfl (by exact gk) (T_append0 rfl rfl (by omega) (by rintro _ h; cases h; rfl)) ?_
      repeat (first | apply CW_seq | apply CW_region | apply RW_nil | apply thenQ_normal | apply thenQ_ret | apply thenQ_exit | apply blockQ_normal | apply blockQ_ret | apply blockQ_exit | (apply Xn; exact rfl) | apply CW_skip | apply CW_ret | apply CW_exit | apply CW_block | (apply CW_cf; exact rfl; exact bf) | (apply CW_ct; exact rfl; exact bt) | (apply RW_no; exact rfl; exact rfl; exact rfl; exact rfl; exact bn) | (apply RWu; exact rfl; exact rfl; exact rfl; exact rfl) | (apply RW_same; exact rfl; exact gk; exact op1) | (apply RW_box; exact rfl; exact gk; (first | exact T_alloc | exact T_boxA rfl | exact T_box1 rfl rfl); intro _) | (apply RW_st; exact gk; exact st1))
      first | refine rR _ (hs := List.Sublist.refl _) (h := ?_) | refine rN _ (hs := List.Sublist.refl _) (h := ?_)
      exact ⟨[(b, box 9 [])], ⟨_, _, rfl, Nat.le_refl _, OwnT.box rfl .nil⟩, rfl, rfl⟩
    · cases e
      refine RW_any rfl (by exact gk) (T_append (xs := []) (hs := [(b, box 9 [])]) (F := H) (by rfl) rfl rfl (OwnS.box (cur := []) rfl) (.refl _) h2.h h1.len h1.one (by omega) (by omega)) ?_
      rintro _ _ _ _ ⟨a', cap', hs', rfl, hown, rfl, rfl⟩
      repeat (first | apply CW_seq | apply CW_region | apply RW_nil | apply thenQ_normal | apply thenQ_ret | apply thenQ_exit | apply blockQ_normal | apply blockQ_ret | apply blockQ_exit | (apply Xn; exact rfl) | apply CW_skip | apply CW_ret | apply CW_exit | apply CW_block | (apply CW_cf; exact rfl; exact bf) | (apply CW_ct; exact rfl; exact bt) | (apply RW_no; exact rfl; exact rfl; exact rfl; exact rfl; exact bn) | (apply RWu; exact rfl; exact rfl; exact rfl; exact rfl) | (apply RW_same; exact rfl; exact gk; exact op1) | (apply RW_box; exact rfl; exact gk; (first | exact T_alloc | exact T_boxA rfl | exact T_box1 rfl rfl); intro _) | (apply RW_st; exact gk; exact st1))
      first | refine rR _ (hs := List.Sublist.refl _) (h := ?_) | refine rN _ (hs := List.Sublist.refl _) (h := ?_)
      rw [Nat.zero_add] at hown ⊢
      have hO : OwnT 9 m a' l.length cap' l hs' := ⟨rfl, xs, h1, by simpa using hown⟩
      exact ⟨hs', ⟨a', cap', rfl, hO.cap, hO⟩, rfl, rfl⟩
theorem clone_vals {m H} {v : Value} {l : List Val} (h : SlV m v l) (hl : l.length ≤ 1000000) :
    FnR Tryd.prog 62 #[v] m H fun v' m' H' => ∃ hs, Cop 33 m v' l hs ∧ m = m' ∧ H' = hs ++ H := by
  obtain ⟨a, cap, rfl, hc, hs⟩ := h
  refine FnR.enter Tryd.func62 rfl Tryd.ntmps62 rfl fun s => ?_
  repeat (first | apply CW_seq | apply CW_region | apply RW_nil | apply thenQ_normal | apply thenQ_ret | apply thenQ_exit | apply blockQ_normal | apply blockQ_ret | apply blockQ_exit | (apply Xn; exact rfl) | apply CW_skip | apply CW_ret | apply CW_exit | apply CW_block | (apply CW_cf; exact rfl; exact bf) | (apply CW_ct; exact rfl; exact bt) | (apply RW_no; exact rfl; exact rfl; exact rfl; exact rfl; exact bn) | (apply RWu; exact rfl; exact rfl; exact rfl; exact rfl) | (apply RW_same; exact rfl; exact gk; exact op1) | (apply RW_box; exact rfl; exact gk; (first | exact T_alloc | exact T_boxA rfl | exact T_box1 rfl rfl); intro _) | (apply RW_st; exact gk; exact st1))
  cases a with
  | none =>
    obtain ⟨xs, h1, rfl | ⟨b, o, e, _⟩⟩ := hs
    · repeat (first | apply CW_seq | apply CW_region | apply RW_nil | apply thenQ_normal | apply thenQ_ret | apply thenQ_exit | apply blockQ_normal | apply blockQ_ret | apply blockQ_exit | (apply Xn; exact rfl) | apply CW_skip | apply CW_ret | apply CW_exit | apply CW_block | (apply CW_cf; exact rfl; exact bf) | (apply CW_ct; exact rfl; exact bt) | (apply RW_no; exact rfl; exact rfl; exact rfl; exact rfl; exact bn) | (apply RWu; exact rfl; exact rfl; exact rfl; exact rfl) | (apply RW_same; exact rfl; exact gk; exact op1) | (apply RW_box; exact rfl; exact gk; (first | exact T_alloc | exact T_boxA rfl | exact T_box1 rfl rfl); intro _) | (apply RW_st; exact gk; exact st1))
      first | refine rR _ (hs := List.Sublist.refl _) (h := ?_) | refine rN _ (hs := List.Sublist.refl _) (h := ?_)
      exact ⟨[], ⟨none, 0, rfl, Nat.le_refl _, OwnT.nil⟩, rfl, rfl⟩
    · cases e
  | some ad =>
    repeat (first | apply CW_seq | apply CW_region | apply RW_nil | apply thenQ_normal | apply thenQ_ret | apply thenQ_exit | apply blockQ_normal | apply blockQ_ret | apply blockQ_exit | (apply Xn; exact rfl) | apply CW_skip | apply CW_ret | apply CW_exit | apply CW_block | (apply CW_cf; exact rfl; exact bf) | (apply CW_ct; exact rfl; exact bt) | (apply RW_no; exact rfl; exact rfl; exact rfl; exact rfl; exact bn) | (apply RWu; exact rfl; exact rfl; exact rfl; exact rfl) | (apply RW_same; exact rfl; exact gk; exact op1) | (apply RW_box; exact rfl; exact gk; (first | exact T_alloc | exact T_boxA rfl | exact T_box1 rfl rfl); intro _) | (apply RW_st; exact gk; exact st1))
    refine RW_any rfl (by exact gk) (T_buildSlice (by rfl) (by decide) (by exact bd)) ?_
    rintro _ _ _ _ ⟨b, rfl, rfl, rfl⟩
    repeat (first | apply CW_seq | apply CW_region | apply RW_nil | apply thenQ_normal | apply thenQ_ret | apply thenQ_exit | apply blockQ_normal | apply blockQ_ret | apply blockQ_exit | (apply Xn; exact rfl) | apply CW_skip | apply CW_ret | apply CW_exit | apply CW_block | (apply CW_cf; exact rfl; exact bf) | (apply CW_ct; exact rfl; exact bt) | (apply RW_no; exact rfl; exact rfl; exact rfl; exact rfl; exact bn) | (apply RWu; exact rfl; exact rfl; exact rfl; exact rfl) | (apply RW_same; exact rfl; exact gk; exact op1) | (apply RW_box; exact rfl; exact gk; (first | exact T_alloc | exact T_boxA rfl | exact T_box1 rfl rfl); intro _) | (apply RW_st; exact gk; exact st1))
    obtain ⟨xs, h1, rfl | ⟨b2, o2, e, h2⟩⟩ := hs
    · refine RW_same rfl (by exact gk) (T_append0 rfl rfl (by omega) (by rintro _ h; cases h; rfl)) ?_
      repeat (first | apply CW_seq | apply CW_region | apply RW_nil | apply thenQ_normal | apply thenQ_ret | apply thenQ_exit | apply blockQ_normal | apply blockQ_ret | apply blockQ_exit | (apply Xn; exact rfl) | apply CW_skip | apply CW_ret | apply CW_exit | apply CW_block | (apply CW_cf; exact rfl; exact bf) | (apply CW_ct; exact rfl; exact bt) | (apply RW_no; exact rfl; exact rfl; exact rfl; exact rfl; exact bn) | (apply RWu; exact rfl; exact rfl; exact rfl; exact rfl) | (apply RW_same; exact rfl; exact gk; exact op1) | (apply RW_box; exact rfl; exact gk; (first | exact T_alloc | exact T_boxA rfl | exact T_box1 rfl rfl); intro _) | (apply RW_st; exact gk; exact st1))
      first | refine rR _ (hs := List.Sublist.refl _) (h := ?_) | refine rN _ (hs := List.Sublist.refl _) (h := ?_)
      exact ⟨[(b, box 33 [])], ⟨_, _, rfl, Nat.le_refl _, OwnT.box rfl .nil⟩, rfl, rfl⟩
    · cases e
      refine RW_any rfl (by exact gk) (T_append (xs := []) (hs := [(b, box 33 [])]) (F := H) (by rfl) rfl rfl (OwnS.box (cur := []) rfl) (.refl _) h2.h h1.len h1.one (by omega) (by omega)) ?_
      rintro _ _ _ _ ⟨a', cap', hs', rfl, hown, rfl, rfl⟩
      repeat (first | apply CW_seq | apply CW_region | apply RW_nil | apply thenQ_normal | apply thenQ_ret | apply thenQ_exit | apply blockQ_normal | apply blockQ_ret | apply blockQ_exit | (apply Xn; exact rfl) | apply CW_skip | apply CW_ret | apply CW_exit | apply CW_block | (apply CW_cf; exact rfl; exact bf) | (apply CW_ct; exact rfl; exact bt) | (apply RW_no; exact rfl; exact rfl; exact rfl; exact rfl; exact bn) | (apply RWu; exact rfl; exact rfl; exact rfl; exact rfl) | (apply RW_same; exact rfl; exact gk; exact op1) | (apply RW_box; exact rfl; exact gk; (first | exact T_alloc | exact T_boxA rfl | exact T_box1 rfl rfl); intro _) | (apply RW_st; exact gk; exact st1))
      first | refine rR _ (hs := List.Sublist.refl _) (h := ?_) | refine rN _ (hs := List.Sublist.refl _) (h := ?_)
      rw [Nat.zero_add] at hown ⊢
      have hO : OwnT 33 m a' l.length cap' l hs' := ⟨rfl, xs, h1, by simpa using hown⟩
      exact ⟨hs', ⟨a', cap', rfl, hO.cap, hO⟩, rfl, rfl⟩

/-- a cell in memory of its own -/
theorem own_cell {m H} {c : Cel} {kv vv : Value} (hk : SlV m kv c.keys) (hv : SlV m vv c.vals) (hkl : c.keys.length ≤ 1000000) (hvl : c.vals.length ≤ 1000000) :
    FnR Tryd.prog 48 #[.agg #[.int .i64 c.kind, .int .i64 c.a, .int .i64 c.b, kv, vv]] m H
      fun v' m' H' => ∃ kv' vv' h1 h2, v' = .agg #[.int .i64 c.kind, .int .i64 c.a, .int .i64 c.b, kv', vv'] ∧ Cop 9 m kv' c.keys h1 ∧ Cop 33 m vv' c.vals h2 ∧ m = m' ∧ H' = h2 ++ (h1 ++ H) := by
  refine FnR.enter Tryd.func48 rfl Tryd.ntmps48 rfl fun s => ?_
  repeat (first | apply CW_seq | apply CW_region | apply RW_nil | apply thenQ_normal | apply thenQ_ret | apply thenQ_exit | apply blockQ_normal | apply blockQ_ret | apply blockQ_exit | (apply Xn; exact rfl) | apply CW_skip | apply CW_ret | apply CW_exit | apply CW_block | (apply CW_cf; exact rfl; exact bf) | (apply CW_ct; exact rfl; exact bt) | (apply RW_no; exact rfl; exact rfl; exact rfl; exact rfl; exact bn) | (apply RWu; exact rfl; exact rfl; exact rfl; exact rfl) | (apply RW_same; exact rfl; exact gk; exact op1) | (apply RW_box; exact rfl; exact gk; (first | exact T_alloc | exact T_boxA rfl | exact T_box1 rfl rfl); intro _) | (apply RW_st; exact gk; exact st1))
  rename_i b1 b2
  refine CW_draw (fun m' H' => (b1, box 31 [.int .i64 c.kind, .int .i64 c.a, .int .i64 c.b, kv, vv]) ∈ H') 7 10 rfl (by kernel_rfl) ?_
  refine AW_take (i := 0) [7] rfl rfl rfl (by exact gk) (by kernel_rfl) (fun m' H' hSt => T_fieldAddr rfl) ?_
  refine AW_take (i := 1) [7] rfl rfl rfl (by exact gk) (by kernel_rfl) (fun m' H' hSt => T_load rfl (At.own hSt rfl)) ?_
  refine AW_take (i := 3) [7] rfl rfl rfl (by exact gk) (by kernel_rfl) (fun m' H' hSt => T_fieldAddr rfl) ?_
  refine AW_take (i := 4) [7] rfl rfl rfl (by exact gk) (by kernel_rfl) (fun m' H' hSt => T_load rfl (At.own hSt rfl)) ?_
  refine AW_call (i := 2) (by kernel_rfl) (fun _ => by simp) rfl (by exact gk) rfl rfl (T_call rfl (clone_strings hk hkl)) ?_
  rintro _ _ _ _ ⟨h1, hc1, rfl, rfl⟩
  refine AW_take (i := 6) [7] rfl rfl rfl (by exact gk) (by kernel_rfl) (fun m' H' hSt => T_fieldAddr rfl) ?_
  refine AW_call (i := 5) (by kernel_rfl) (fun _ => by simp) rfl (by exact gk) rfl rfl (T_call rfl (clone_vals hv hvl)) ?_
  rintro _ _ _ _ ⟨h2, hc2, rfl, rfl⟩
  obtain ⟨a1, p1, rfl, hp1, ho1⟩ := hc1
  obtain ⟨a2, p2, rfl, hp2, ho2⟩ := hc2
  refine AW_st (i := 7) (by kernel_rfl) (fun _ => by simp) rfl (by exact gk) rfl (T_store rfl rfl rfl rfl (by repeat (first | exact Upd.head | apply Upd.tail | apply Upd.app)) (by repeat (first | exact SetL.head | apply SetL.tail))) ?_
  refine AW_same (i := 8) (by kernel_rfl) (fun h => by cases h) rfl (by exact gk) rfl rfl (T_fieldAddr rfl) ?_
  refine AW_st (i := 9) (by kernel_rfl) (fun h => by cases h) rfl (by exact gk) rfl (T_store rfl rfl rfl rfl (by repeat (first | exact Upd.head | apply Upd.tail | apply Upd.app)) (by repeat (first | exact SetL.head | apply SetL.tail))) ?_
  refine AW_done (by kernel_rfl) (fun h => by cases h) ?_
  repeat (first | apply CW_seq | apply CW_region | apply RW_nil | apply thenQ_normal | apply thenQ_ret | apply thenQ_exit | apply blockQ_normal | apply blockQ_ret | apply blockQ_exit | (apply Xn; exact rfl) | apply CW_skip | apply CW_ret | apply CW_exit | apply CW_block | (apply CW_cf; exact rfl; exact bf) | (apply CW_ct; exact rfl; exact bt) | (apply RW_no; exact rfl; exact rfl; exact rfl; exact rfl; exact bn) | (apply RWu; exact rfl; exact rfl; exact rfl; exact rfl) | (apply RW_same; exact rfl; exact gk; exact op1) | (apply RW_box; exact rfl; exact gk; (first | exact T_alloc | exact T_boxA rfl | exact T_box1 rfl rfl); intro _) | (apply RW_st; exact gk; exact st1))
  first | refine rR (h2 ++ (h1 ++ H)) (h := ?_) | refine rN (h2 ++ (h1 ++ H)) (h := ?_)
  exact ⟨_, _, h1, h2, rfl, ⟨_, _, rfl, hp1, ho1⟩, ⟨_, _, rfl, hp2, ho2⟩, rfl, rfl⟩
end Go.Proofs.YtbhpofplencjgaaDoor
