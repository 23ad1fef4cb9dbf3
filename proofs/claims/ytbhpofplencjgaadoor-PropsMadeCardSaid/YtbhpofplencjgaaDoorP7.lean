/- What things have: the small functions. Conditions: none. -/
import Derived.Test.YtbhpofplencjgaaDoorP6
namespace Go.Proofs.YtbhpofplencjgaaDoor
open Go Go.WL
set_option linter.unusedSimpArgs false
set_option linter.unusedVariables false
attribute [local irreducible] OpP OpT RW CW AW FnR FnP BinR At thenQ blockQ bodyQ

abbrev S := List UInt8

def find (l : List S) (x : S) : Option Nat := l.findIdx? (· == x)
def findI (l : List S) (x : S) : Int := match find l x with | some i => i | none => -1

theorem find_some {l : List S} {x : S} {k : Nat} (hk : k < l.length) (h : l[k] = x) (hb : ∀ j (hj : j < k), l[j]'(by omega) ≠ x) : find l x = some k := by
  unfold find
  rw [List.findIdx?_eq_some_iff_getElem]
  exact ⟨hk, by simp [h], fun j hj => by simpa using hb j hj⟩
theorem find_none {l : List S} {x : S} (hb : ∀ j (hj : j < l.length), l[j] ≠ x) : find l x = none := by
  unfold find
  rw [List.findIdx?_eq_none_iff]
  intro y hy
  obtain ⟨j, hj, rfl⟩ := List.getElem_of_mem hy
  simpa using hb j hj
theorem find_lt {l : List S} {x : S} {k : Nat} (h : find l x = some k) : k < l.length := by
  unfold find at h
  rw [List.findIdx?_eq_some_iff_getElem] at h
  exact h.1

theorem slices_Index {m : Mem} {H : Hp} {v : Value} {l : List S} {x : S} (h : RdV m H v l) (hl : l.length ≤ 1000000) :
    FnR Tryd.prog 56 #[v, str x] m H fun v' m' H' => v' = .int .i64 (findI l x) ∧ m = m' ∧ H = H' := by
  have hs := h
  obtain ⟨a, cap, rfl, hc, -⟩ := h
  refine FnR.enter Tryd.func56 rfl Tryd.ntmps56 rfl fun s => ?_
  repeat (first | apply CW_seq | apply CW_region | apply RW_nil | apply thenQ_normal | apply thenQ_ret | apply thenQ_exit | apply blockQ_normal | apply blockQ_ret | apply blockQ_exit | (apply Xn; exact rfl) | apply CW_skip | apply CW_ret | apply CW_exit | apply CW_block | (apply CW_cf; exact rfl; exact bf) | (apply CW_ct; exact rfl; exact bt) | (apply RW_no; exact rfl; exact rfl; exact rfl; exact rfl; exact bn) | (apply RWu; exact rfl; exact rfl; exact rfl; exact rfl) | (apply RW_same; exact rfl; exact gk; exact op1) | (apply RW_box; exact rfl; exact gk; (first | exact T_alloc | exact T_boxA rfl | exact T_box1 rfl rfl); intro _) | (apply RW_st; exact gk; exact st1))
  refine CW_loop (fun k : Nat => [(0, .slice a l.length cap), (1, str x), (7, .int .i64 l.length), (8, .int .i64 k)]) (fun _ => m) (fun _ => H) (fun k => k ≤ l.length ∧ ∀ j (hj : j < k) (hj' : j < l.length), l[j] ≠ x) (fun k => l.length - k) 0 (by exact sb) rfl (.refl _) ⟨by omega, fun j hj => by omega⟩ ?_
  rintro k ⟨hk, hb⟩
  repeat (first | apply CW_seq | apply CW_region | apply RW_nil | apply thenQ_normal | apply thenQ_ret | apply thenQ_exit | apply blockQ_normal | apply blockQ_ret | apply blockQ_exit | (apply Xn; exact rfl) | apply CW_skip | apply CW_ret | apply CW_exit | apply CW_block | (apply CW_cf; exact rfl; exact bf) | (apply CW_ct; exact rfl; exact bt) | (apply RW_no; exact rfl; exact rfl; exact rfl; exact rfl; exact bn) | (apply RWu; exact rfl; exact rfl; exact rfl; exact rfl) | (apply RW_same; exact rfl; exact gk; exact op1) | (apply RW_box; exact rfl; exact gk; (first | exact T_alloc | exact T_boxA rfl | exact T_box1 rfl rfl); intro _) | (apply RW_st; exact gk; exact st1))
  refine CW_cond_dec rfl (fun h => ?_) (fun h => ?_)
  · repeat (first | apply CW_seq | apply CW_region | apply RW_nil | apply thenQ_normal | apply thenQ_ret | apply thenQ_exit | apply blockQ_normal | apply blockQ_ret | apply blockQ_exit | (apply Xn; exact rfl) | apply CW_skip | apply CW_ret | apply CW_exit | apply CW_block | (apply CW_cf; exact rfl; exact bf) | (apply CW_ct; exact rfl; exact bt) | (apply RW_no; exact rfl; exact rfl; exact rfl; exact rfl; exact bn) | (apply RWu; exact rfl; exact rfl; exact rfl; exact rfl) | (apply RW_same; exact rfl; exact gk; exact op1) | (apply RW_box; exact rfl; exact gk; (first | exact T_alloc | exact T_boxA rfl | exact T_box1 rfl rfl); intro _) | (apply RW_st; exact gk; exact st1))
    refine RW_indexH rfl (by exact gk) rfl hs rfl rfl (by omega) ?_
    rintro b o cs hcs hats
    simp only [Int.toNat_natCast] at hcs
    subst hcs
    have hat := hats 0 _ rfl
    repeat (first | apply CW_seq | apply CW_region | apply RW_nil | apply thenQ_normal | apply thenQ_ret | apply thenQ_exit | apply blockQ_normal | apply blockQ_ret | apply blockQ_exit | (apply Xn; exact rfl) | apply CW_skip | apply CW_ret | apply CW_exit | apply CW_block | (apply CW_cf; exact rfl; exact bf) | (apply CW_ct; exact rfl; exact bt) | (apply RW_no; exact rfl; exact rfl; exact rfl; exact rfl; exact bn) | (apply RWu; exact rfl; exact rfl; exact rfl; exact rfl) | (apply RW_same; exact rfl; exact gk; exact op1) | (apply RW_box; exact rfl; exact gk; (first | exact T_alloc | exact T_boxA rfl | exact T_box1 rfl rfl); intro _) | (apply RW_st; exact gk; exact st1))
    refine CW_cond_dec rfl (fun h => ?_) (fun h => ?_)
    · repeat (first | apply CW_seq | apply CW_region | apply RW_nil | apply thenQ_normal | apply thenQ_ret | apply thenQ_exit | apply blockQ_normal | apply blockQ_ret | apply blockQ_exit | (apply Xn; exact rfl) | apply CW_skip | apply CW_ret | apply CW_exit | apply CW_block | (apply CW_cf; exact rfl; exact bf) | (apply CW_ct; exact rfl; exact bt) | (apply RW_no; exact rfl; exact rfl; exact rfl; exact rfl; exact bn) | (apply RWu; exact rfl; exact rfl; exact rfl; exact rfl) | (apply RW_same; exact rfl; exact gk; exact op1) | (apply RW_box; exact rfl; exact gk; (first | exact T_alloc | exact T_boxA rfl | exact T_box1 rfl rfl); intro _) | (apply RW_st; exact gk; exact st1))
      first | refine rR _ (hs := List.Sublist.refl _) (h := ?_) | refine rN _ (hs := List.Sublist.refl _) (h := ?_)
      refine ⟨?_, rfl, rfl⟩
      rw [findI, find_some (k := k) (by omega) h.symm (fun j hj => hb j hj (by omega))]
      rfl
    · repeat (first | apply CW_seq | apply CW_region | apply RW_nil | apply thenQ_normal | apply thenQ_ret | apply thenQ_exit | apply blockQ_normal | apply blockQ_ret | apply blockQ_exit | (apply Xn; exact rfl) | apply CW_skip | apply CW_ret | apply CW_exit | apply CW_block | (apply CW_cf; exact rfl; exact bf) | (apply CW_ct; exact rfl; exact bt) | (apply RW_no; exact rfl; exact rfl; exact rfl; exact rfl; exact bn) | (apply RWu; exact rfl; exact rfl; exact rfl; exact rfl) | (apply RW_same; exact rfl; exact gk; exact op1) | (apply RW_box; exact rfl; exact gk; (first | exact T_alloc | exact T_boxA rfl | exact T_box1 rfl rfl); intro _) | (apply RW_st; exact gk; exact st1))
      refine ⟨k + 1, ⟨by omega, fun j hj hj' => ?_⟩, by omega, by exact sb, rfl, [], .refl _⟩
      by_cases e : j = k
      · subst e; exact fun e => h e.symm
      · exact hb j (by omega) hj'
  · repeat (first | apply CW_seq | apply CW_region | apply RW_nil | apply thenQ_normal | apply thenQ_ret | apply thenQ_exit | apply blockQ_normal | apply blockQ_ret | apply blockQ_exit | (apply Xn; exact rfl) | apply CW_skip | apply CW_ret | apply CW_exit | apply CW_block | (apply CW_cf; exact rfl; exact bf) | (apply CW_ct; exact rfl; exact bt) | (apply RW_no; exact rfl; exact rfl; exact rfl; exact rfl; exact bn) | (apply RWu; exact rfl; exact rfl; exact rfl; exact rfl) | (apply RW_same; exact rfl; exact gk; exact op1) | (apply RW_box; exact rfl; exact gk; (first | exact T_alloc | exact T_boxA rfl | exact T_box1 rfl rfl); intro _) | (apply RW_st; exact gk; exact st1))
    first | refine rR _ (hs := List.Sublist.refl _) (h := ?_) | refine rN _ (hs := List.Sublist.refl _) (h := ?_)
    refine ⟨?_, rfl, rfl⟩
    rw [findI, find_none (fun j hj => hb j (by omega) hj)]
    rfl

theorem props_place {m : Mem} {H : Hp} {v : Value} {l : List S} {x : S} (h : RdV m H v l) (hl : l.length ≤ 1000000) :
    FnR Tryd.prog 44 #[v, str x] m H fun v' m' H' => v' = .tuple #[.int .i64 (findI l x), .bool (find l x).isSome] ∧ m = m' ∧ H = H' := by
  refine FnR.enter Tryd.func44 rfl Tryd.ntmps44 rfl fun s => ?_
  repeat (first | apply CW_seq | apply CW_region | apply RW_nil | apply thenQ_normal | apply thenQ_ret | apply thenQ_exit | apply blockQ_normal | apply blockQ_ret | apply blockQ_exit | (apply Xn; exact rfl) | apply CW_skip | apply CW_ret | apply CW_exit | apply CW_block | (apply CW_cf; exact rfl; exact bf) | (apply CW_ct; exact rfl; exact bt) | (apply RW_no; exact rfl; exact rfl; exact rfl; exact rfl; exact bn) | (apply RWu; exact rfl; exact rfl; exact rfl; exact rfl) | (apply RW_same; exact rfl; exact gk; exact op1) | (apply RW_box; exact rfl; exact gk; (first | exact T_alloc | exact T_boxA rfl | exact T_box1 rfl rfl); intro _) | (apply RW_st; exact gk; exact st1))
  refine RW_call rfl (by exact gk) rfl (slices_Index h hl) ?_
  rintro _ _ _ _ ⟨rfl, rfl, rfl⟩
  repeat (first | apply CW_seq | apply CW_region | apply RW_nil | apply thenQ_normal | apply thenQ_ret | apply thenQ_exit | apply blockQ_normal | apply blockQ_ret | apply blockQ_exit | (apply Xn; exact rfl) | apply CW_skip | apply CW_ret | apply CW_exit | apply CW_block | (apply CW_cf; exact rfl; exact bf) | (apply CW_ct; exact rfl; exact bt) | (apply RW_no; exact rfl; exact rfl; exact rfl; exact rfl; exact bn) | (apply RWu; exact rfl; exact rfl; exact rfl; exact rfl) | (apply RW_same; exact rfl; exact gk; exact op1) | (apply RW_box; exact rfl; exact gk; (first | exact T_alloc | exact T_boxA rfl | exact T_box1 rfl rfl); intro _) | (apply RW_st; exact gk; exact st1))
  first | refine rR _ (hs := List.Sublist.refl _) (h := ?_) | refine rN _ (hs := List.Sublist.refl _) (h := ?_)
  refine ⟨?_, rfl, rfl⟩
  simp only [tupleOf]
  congr 4
  unfold findI
  cases e : find l x with
  | none => simp
  | some i => simp

def vUndef : Val := ⟨0, 0, []⟩
def vNum (n : Int) : Val := ⟨3, n, []⟩
def vOwn (s : S) : Val := ⟨6, 0, s⟩
def vStr (s : S) : Val := ⟨4, 0, s⟩

def ownV (name : S) (l : List S) : Val := if (find l name).isSome then vOwn name else vUndef

theorem props_number {n : Int} {m : Mem} {H : Hp} : FnR Tryd.prog 31 #[.int .i64 n] m H fun v' m' H' => v' = .agg ⟨(vNum n).cs⟩ ∧ m = m' ∧ H = H' := by
  refine FnR.enter Tryd.func31 rfl Tryd.ntmps31 rfl fun s => ?_
  repeat (first | apply CW_seq | apply CW_region | apply RW_nil | apply thenQ_normal | apply thenQ_ret | apply thenQ_exit | apply blockQ_normal | apply blockQ_ret | apply blockQ_exit | (apply Xn; exact rfl) | apply CW_skip | apply CW_ret | apply CW_exit | apply CW_block | (apply CW_cf; exact rfl; exact bf) | (apply CW_ct; exact rfl; exact bt) | (apply RW_no; exact rfl; exact rfl; exact rfl; exact rfl; exact bn) | (apply RWu; exact rfl; exact rfl; exact rfl; exact rfl) | (apply RW_same; exact rfl; exact gk; exact op1) | (apply RW_box; exact rfl; exact gk; (first | exact T_alloc | exact T_boxA rfl | exact T_box1 rfl rfl); intro _) | (apply RW_st; exact gk; exact st1))
  first | refine rR (H) (h := ?_) | refine rN (H) (h := ?_)
  exact ⟨rfl, rfl, rfl⟩

theorem props_own {m : Mem} {H : Hp} {v : Value} {l : List S} {x : S} (h : SlV m v l) (hl : l.length ≤ 1000000) :
    FnR Tryd.prog 32 #[str x, v] m H fun v' m' H' => v' = .agg ⟨(ownV x l).cs⟩ ∧ m = m' ∧ H = H' := by
  refine FnR.enter Tryd.func32 rfl Tryd.ntmps32 rfl fun s => ?_
  repeat (first | apply CW_seq | apply CW_region | apply RW_nil | apply thenQ_normal | apply thenQ_ret | apply thenQ_exit | apply blockQ_normal | apply blockQ_ret | apply blockQ_exit | (apply Xn; exact rfl) | apply CW_skip | apply CW_ret | apply CW_exit | apply CW_block | (apply CW_cf; exact rfl; exact bf) | (apply CW_ct; exact rfl; exact bt) | (apply RW_no; exact rfl; exact rfl; exact rfl; exact rfl; exact bn) | (apply RWu; exact rfl; exact rfl; exact rfl; exact rfl) | (apply RW_same; exact rfl; exact gk; exact op1) | (apply RW_box; exact rfl; exact gk; (first | exact T_alloc | exact T_boxA rfl | exact T_box1 rfl rfl); intro _) | (apply RW_st; exact gk; exact st1))
  rename_i br
  refine RW_call rfl (by exact gk) rfl (props_place (h.rd _) hl) ?_
  rintro _ _ _ _ ⟨rfl, rfl, rfl⟩
  repeat (first | apply CW_seq | apply CW_region | apply RW_nil | apply thenQ_normal | apply thenQ_ret | apply thenQ_exit | apply blockQ_normal | apply blockQ_ret | apply blockQ_exit | (apply Xn; exact rfl) | apply CW_skip | apply CW_ret | apply CW_exit | apply CW_block | (apply CW_cf; exact rfl; exact bf) | (apply CW_ct; exact rfl; exact bt) | (apply RW_no; exact rfl; exact rfl; exact rfl; exact rfl; exact bn) | (apply RWu; exact rfl; exact rfl; exact rfl; exact rfl) | (apply RW_same; exact rfl; exact gk; exact op1) | (apply RW_box; exact rfl; exact gk; (first | exact T_alloc | exact T_boxA rfl | exact T_box1 rfl rfl); intro _) | (apply RW_st; exact gk; exact st1))
  refine CW_cond rfl (fun h => ?_) (fun h => ?_)
  · repeat (first | apply CW_seq | apply CW_region | apply RW_nil | apply thenQ_normal | apply thenQ_ret | apply thenQ_exit | apply blockQ_normal | apply blockQ_ret | apply blockQ_exit | (apply Xn; exact rfl) | apply CW_skip | apply CW_ret | apply CW_exit | apply CW_block | (apply CW_cf; exact rfl; exact bf) | (apply CW_ct; exact rfl; exact bt) | (apply RW_no; exact rfl; exact rfl; exact rfl; exact rfl; exact bn) | (apply RWu; exact rfl; exact rfl; exact rfl; exact rfl) | (apply RW_same; exact rfl; exact gk; exact op1) | (apply RW_box; exact rfl; exact gk; (first | exact T_alloc | exact T_boxA rfl | exact T_box1 rfl rfl); intro _) | (apply RW_st; exact gk; exact st1))
    first | refine rR (H) (h := ?_) | refine rN (H) (h := ?_)
    exact ⟨by simp [ownV, h, vOwn, tupleOf], rfl, rfl⟩
  · repeat (first | apply CW_seq | apply CW_region | apply RW_nil | apply thenQ_normal | apply thenQ_ret | apply thenQ_exit | apply blockQ_normal | apply blockQ_ret | apply blockQ_exit | (apply Xn; exact rfl) | apply CW_skip | apply CW_ret | apply CW_exit | apply CW_block | (apply CW_cf; exact rfl; exact bf) | (apply CW_ct; exact rfl; exact bt) | (apply RW_no; exact rfl; exact rfl; exact rfl; exact rfl; exact bn) | (apply RWu; exact rfl; exact rfl; exact rfl; exact rfl) | (apply RW_same; exact rfl; exact gk; exact op1) | (apply RW_box; exact rfl; exact gk; (first | exact T_alloc | exact T_boxA rfl | exact T_box1 rfl rfl); intro _) | (apply RW_st; exact gk; exact st1))
    first | refine rR (H) (h := ?_) | refine rN (H) (h := ?_)
    exact ⟨by simp [ownV, h, vUndef, tupleOf], rfl, rfl⟩
end Go.Proofs.YtbhpofplencjgaaDoor
