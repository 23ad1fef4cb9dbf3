/- A value by a number. Conditions: none. -/
import Derived.Test.YtbhpofplencjgaaDoorC1
import Derived.Test.YtbhpofplencjgaaDoorL11
namespace Go.Proofs.YtbhpofplencjgaaDoor
open Go Go.WL
set_option linter.unusedSimpArgs false
set_option linter.unusedVariables false
attribute [local irreducible] OpP OpT RW CW AW FnR FnP BinR At thenQ blockQ bodyQ

def valueWords : List S := [[120], [121], sLength, sPush, [48], sThen, [97, 98, 99], []]
def valueF (n cells : Int) : Val :=
  if n % 9 = 0 then vUndef
  else if n % 9 = 1 then ⟨1, 0, []⟩
  else if n % 9 = 2 then ⟨2, n / 9 % 2, []⟩
  else if n % 9 = 3 ∨ n % 9 = 4 then vNum (n / 9 - 2)
  else if n % 9 = 5 ∨ n % 9 = 6 then vStr (valueWords.getD (n / 9 % 8).toNat [])
  else if n % 9 = 7 ∧ 0 < cells then ⟨5, 1 + n / 9 % cells, []⟩
  else vOwn [110, 111, 119]

theorem valueF_ref {n c : Int} (h : (valueF n c).k = 5) : 1 ≤ (valueF n c).n ∧ (valueF n c).n ≤ c := by
  unfold valueF at *
  split at h; (simp [vUndef] at h)
  split at h; (simp at h)
  split at h; (simp at h)
  split at h; (simp [vNum] at h)
  split at h; (simp [vStr] at h)
  split at h
  · simp only [*, if_false, if_true]
    rename_i h7
    have h1 := Int.emod_nonneg (n / 9) (show c ≠ 0 by omega)
    have h2 := Int.emod_lt_of_pos (n / 9) h7.2
    simp only [and_true, true_and] at *
    simp [h7] 
    omega
  · simp [vOwn] at h

theorem RdV_box {α : Type} [Rep α] {m : Mem} {H : Hp} {b : Nat} {E : TypeId} {xs : List Value} {l : List α} {k : Nat} (hm : (b, box E xs) ∈ H) (h : RepL m l xs) (hk : l.length = k) : RdV m H (.slice (some ⟨b, 0, none⟩) k k) l := by
  subst hk
  exact OwnT.rd (hs := [(b, box E xs)]) (OwnT.box rfl h) (by simpa using hm)

theorem RepL.strs {m : Mem} : ∀ l : List S, RepL m l (l.map fun x => str x)
  | [] => .nil
  | x :: l => .cons (cs := [str x]) rfl (RepL.strs l)
theorem law_Value {m : Mem} {H : Hp} {n c : Int} (hn : 0 ≤ n ∧ n ≤ 255) (hc : 0 ≤ c ∧ c ≤ 1000000) :
    FnR Tryd.prog 14 #[.int .u8 n, .int .i64 c] m H fun v' m' H' => v' = .agg ⟨(valueF n c).cs⟩ ∧ m = m' ∧ H = H' := by
  refine FnR.enter Tryd.func14 rfl Tryd.ntmps14 rfl fun s => ?_
  repeat (first | apply CW_seq | apply CW_region | apply RW_nil | apply thenQ_normal | apply thenQ_ret | apply thenQ_exit | apply blockQ_normal | apply blockQ_ret | apply blockQ_exit | (apply Xn; exact rfl) | apply CW_skip | apply CW_ret | apply CW_exit | apply CW_block | (apply CW_cf; exact rfl; exact bf) | (apply CW_ct; exact rfl; exact bt) | (apply RW_no; exact rfl; exact rfl; exact rfl; exact rfl; exact bn) | (apply RWu; exact rfl; exact rfl; exact rfl; exact rfl) | (apply RW_same; exact rfl; exact gk; exact op1) | (apply RW_box; exact rfl; exact gk; (first | exact T_alloc | exact T_boxA rfl | exact T_box1 rfl rfl); intro _) | (apply RW_st; exact gk; exact st1))
  rename_i b4
  refine CW_cond_dec rfl (fun h => ?_) (fun h => ?_)
  · have e : valueF n c = vUndef := by unfold valueF; rw [if_pos h]
    rw [e]
    repeat (first | apply CW_seq | apply CW_region | apply RW_nil | apply thenQ_normal | apply thenQ_ret | apply thenQ_exit | apply blockQ_normal | apply blockQ_ret | apply blockQ_exit | (apply Xn; exact rfl) | apply CW_skip | apply CW_ret | apply CW_exit | apply CW_block | (apply CW_cf; exact rfl; exact bf) | (apply CW_ct; exact rfl; exact bt) | (apply RW_no; exact rfl; exact rfl; exact rfl; exact rfl; exact bn) | (apply RWu; exact rfl; exact rfl; exact rfl; exact rfl) | (apply RW_same; exact rfl; exact gk; exact op1) | (apply RW_box; exact rfl; exact gk; (first | exact T_alloc | exact T_boxA rfl | exact T_box1 rfl rfl); intro _) | (apply RW_st; exact gk; exact st1))
    first | refine rR (H) (h := ?_) | refine rN (H) (h := ?_)
    exact ⟨rfl, rfl, rfl⟩
  have n0 := h
  repeat (first | apply CW_seq | apply CW_region | apply RW_nil | apply thenQ_normal | apply thenQ_ret | apply thenQ_exit | apply blockQ_normal | apply blockQ_ret | apply blockQ_exit | (apply Xn; exact rfl) | apply CW_skip | apply CW_ret | apply CW_exit | apply CW_block | (apply CW_cf; exact rfl; exact bf) | (apply CW_ct; exact rfl; exact bt) | (apply RW_no; exact rfl; exact rfl; exact rfl; exact rfl; exact bn) | (apply RWu; exact rfl; exact rfl; exact rfl; exact rfl) | (apply RW_same; exact rfl; exact gk; exact op1) | (apply RW_box; exact rfl; exact gk; (first | exact T_alloc | exact T_boxA rfl | exact T_box1 rfl rfl); intro _) | (apply RW_st; exact gk; exact st1))
  refine CW_cond_dec rfl (fun h => ?_) (fun h => ?_)
  · have e : valueF n c = ⟨1, 0, []⟩ := by unfold valueF; rw [if_neg n0, if_pos h]
    rw [e]
    repeat (first | apply CW_seq | apply CW_region | apply RW_nil | apply thenQ_normal | apply thenQ_ret | apply thenQ_exit | apply blockQ_normal | apply blockQ_ret | apply blockQ_exit | (apply Xn; exact rfl) | apply CW_skip | apply CW_ret | apply CW_exit | apply CW_block | (apply CW_cf; exact rfl; exact bf) | (apply CW_ct; exact rfl; exact bt) | (apply RW_no; exact rfl; exact rfl; exact rfl; exact rfl; exact bn) | (apply RWu; exact rfl; exact rfl; exact rfl; exact rfl) | (apply RW_same; exact rfl; exact gk; exact op1) | (apply RW_box; exact rfl; exact gk; (first | exact T_alloc | exact T_boxA rfl | exact T_box1 rfl rfl); intro _) | (apply RW_st; exact gk; exact st1))
    first | refine rR (H) (h := ?_) | refine rN (H) (h := ?_)
    exact ⟨rfl, rfl, rfl⟩
  have n1 := h
  repeat (first | apply CW_seq | apply CW_region | apply RW_nil | apply thenQ_normal | apply thenQ_ret | apply thenQ_exit | apply blockQ_normal | apply blockQ_ret | apply blockQ_exit | (apply Xn; exact rfl) | apply CW_skip | apply CW_ret | apply CW_exit | apply CW_block | (apply CW_cf; exact rfl; exact bf) | (apply CW_ct; exact rfl; exact bt) | (apply RW_no; exact rfl; exact rfl; exact rfl; exact rfl; exact bn) | (apply RWu; exact rfl; exact rfl; exact rfl; exact rfl) | (apply RW_same; exact rfl; exact gk; exact op1) | (apply RW_box; exact rfl; exact gk; (first | exact T_alloc | exact T_boxA rfl | exact T_box1 rfl rfl); intro _) | (apply RW_st; exact gk; exact st1))
  refine CW_cond_dec rfl (fun h => ?_) (fun h => ?_)
  · have e : valueF n c = ⟨2, n / 9 % 2, []⟩ := by unfold valueF; rw [if_neg n0, if_neg n1, if_pos h]
    rw [e]
    repeat (first | apply CW_seq | apply CW_region | apply RW_nil | apply thenQ_normal | apply thenQ_ret | apply thenQ_exit | apply blockQ_normal | apply blockQ_ret | apply blockQ_exit | (apply Xn; exact rfl) | apply CW_skip | apply CW_ret | apply CW_exit | apply CW_block | (apply CW_cf; exact rfl; exact bf) | (apply CW_ct; exact rfl; exact bt) | (apply RW_no; exact rfl; exact rfl; exact rfl; exact rfl; exact bn) | (apply RWu; exact rfl; exact rfl; exact rfl; exact rfl) | (apply RW_same; exact rfl; exact gk; exact op1) | (apply RW_box; exact rfl; exact gk; (first | exact T_alloc | exact T_boxA rfl | exact T_box1 rfl rfl); intro _) | (apply RW_st; exact gk; exact st1))
    first | refine rR (H) (h := ?_) | refine rN (H) (h := ?_)
    exact ⟨rfl, rfl, rfl⟩
  have n2 := h
  repeat (first | apply CW_seq | apply CW_region | apply RW_nil | apply thenQ_normal | apply thenQ_ret | apply thenQ_exit | apply blockQ_normal | apply blockQ_ret | apply blockQ_exit | (apply Xn; exact rfl) | apply CW_skip | apply CW_ret | apply CW_exit | apply CW_block | (apply CW_cf; exact rfl; exact bf) | (apply CW_ct; exact rfl; exact bt) | (apply RW_no; exact rfl; exact rfl; exact rfl; exact rfl; exact bn) | (apply RWu; exact rfl; exact rfl; exact rfl; exact rfl) | (apply RW_same; exact rfl; exact gk; exact op1) | (apply RW_box; exact rfl; exact gk; (first | exact T_alloc | exact T_boxA rfl | exact T_box1 rfl rfl); intro _) | (apply RW_st; exact gk; exact st1))
  refine CW_or [(0, .int .u8 n), (1, .int .i64 c), (4, .pointer (some ⟨b4, 0, none⟩)), (6, .int .u8 (n % 9))] rfl (by exact sb) (fun _ => by (repeat (first | apply CW_seq | apply CW_region | apply RW_nil | apply thenQ_normal | apply thenQ_ret | apply thenQ_exit | apply blockQ_normal | apply blockQ_ret | apply blockQ_exit | (apply Xn; exact rfl) | apply CW_skip | apply CW_ret | apply CW_exit | apply CW_block | (apply CW_cf; exact rfl; exact bf) | (apply CW_ct; exact rfl; exact bt) | (apply RW_no; exact rfl; exact rfl; exact rfl; exact rfl; exact bn) | (apply RWu; exact rfl; exact rfl; exact rfl; exact rfl) | (apply RW_same; exact rfl; exact gk; exact op1) | (apply RW_box; exact rfl; exact gk; (first | exact T_alloc | exact T_boxA rfl | exact T_box1 rfl rfl); intro _) | (apply RW_st; exact gk; exact st1))); exact ⟨rfl, rfl, by exact sb, rfl, rfl⟩) ?_
  repeat (first | apply CW_seq | apply CW_region | apply RW_nil | apply thenQ_normal | apply thenQ_ret | apply thenQ_exit | apply blockQ_normal | apply blockQ_ret | apply blockQ_exit | (apply Xn; exact rfl) | apply CW_skip | apply CW_ret | apply CW_exit | apply CW_block | (apply CW_cf; exact rfl; exact bf) | (apply CW_ct; exact rfl; exact bt) | (apply RW_no; exact rfl; exact rfl; exact rfl; exact rfl; exact bn) | (apply RWu; exact rfl; exact rfl; exact rfl; exact rfl) | (apply RW_same; exact rfl; exact gk; exact op1) | (apply RW_box; exact rfl; exact gk; (first | exact T_alloc | exact T_boxA rfl | exact T_box1 rfl rfl); intro _) | (apply RW_st; exact gk; exact st1))
  refine CW_cond_dec rfl (fun h => ?_) (fun h => ?_)
  · have e : valueF n c = vNum (n / 9 - 2) := by unfold valueF; rw [if_neg n0, if_neg n1, if_neg n2, if_pos h]
    rw [e]
    repeat (first | apply CW_seq | apply CW_region | apply RW_nil | apply thenQ_normal | apply thenQ_ret | apply thenQ_exit | apply blockQ_normal | apply blockQ_ret | apply blockQ_exit | (apply Xn; exact rfl) | apply CW_skip | apply CW_ret | apply CW_exit | apply CW_block | (apply CW_cf; exact rfl; exact bf) | (apply CW_ct; exact rfl; exact bt) | (apply RW_no; exact rfl; exact rfl; exact rfl; exact rfl; exact bn) | (apply RWu; exact rfl; exact rfl; exact rfl; exact rfl) | (apply RW_same; exact rfl; exact gk; exact op1) | (apply RW_box; exact rfl; exact gk; (first | exact T_alloc | exact T_boxA rfl | exact T_box1 rfl rfl); intro _) | (apply RW_st; exact gk; exact st1))
    first | refine rR (H) (h := ?_) | refine rN (H) (h := ?_)
    exact ⟨rfl, rfl, rfl⟩
  have n3 := h
  repeat (first | apply CW_seq | apply CW_region | apply RW_nil | apply thenQ_normal | apply thenQ_ret | apply thenQ_exit | apply blockQ_normal | apply blockQ_ret | apply blockQ_exit | (apply Xn; exact rfl) | apply CW_skip | apply CW_ret | apply CW_exit | apply CW_block | (apply CW_cf; exact rfl; exact bf) | (apply CW_ct; exact rfl; exact bt) | (apply RW_no; exact rfl; exact rfl; exact rfl; exact rfl; exact bn) | (apply RWu; exact rfl; exact rfl; exact rfl; exact rfl) | (apply RW_same; exact rfl; exact gk; exact op1) | (apply RW_box; exact rfl; exact gk; (first | exact T_alloc | exact T_boxA rfl | exact T_box1 rfl rfl); intro _) | (apply RW_st; exact gk; exact st1))
  refine CW_or [(0, .int .u8 n), (1, .int .i64 c), (4, .pointer (some ⟨b4, 0, none⟩)), (6, .int .u8 (n % 9))] rfl (by exact sb) (fun _ => by (repeat (first | apply CW_seq | apply CW_region | apply RW_nil | apply thenQ_normal | apply thenQ_ret | apply thenQ_exit | apply blockQ_normal | apply blockQ_ret | apply blockQ_exit | (apply Xn; exact rfl) | apply CW_skip | apply CW_ret | apply CW_exit | apply CW_block | (apply CW_cf; exact rfl; exact bf) | (apply CW_ct; exact rfl; exact bt) | (apply RW_no; exact rfl; exact rfl; exact rfl; exact rfl; exact bn) | (apply RWu; exact rfl; exact rfl; exact rfl; exact rfl) | (apply RW_same; exact rfl; exact gk; exact op1) | (apply RW_box; exact rfl; exact gk; (first | exact T_alloc | exact T_boxA rfl | exact T_box1 rfl rfl); intro _) | (apply RW_st; exact gk; exact st1))); exact ⟨rfl, rfl, by exact sb, rfl, rfl⟩) ?_
  repeat (first | apply CW_seq | apply CW_region | apply RW_nil | apply thenQ_normal | apply thenQ_ret | apply thenQ_exit | apply blockQ_normal | apply blockQ_ret | apply blockQ_exit | (apply Xn; exact rfl) | apply CW_skip | apply CW_ret | apply CW_exit | apply CW_block | (apply CW_cf; exact rfl; exact bf) | (apply CW_ct; exact rfl; exact bt) | (apply RW_no; exact rfl; exact rfl; exact rfl; exact rfl; exact bn) | (apply RWu; exact rfl; exact rfl; exact rfl; exact rfl) | (apply RW_same; exact rfl; exact gk; exact op1) | (apply RW_box; exact rfl; exact gk; (first | exact T_alloc | exact T_boxA rfl | exact T_box1 rfl rfl); intro _) | (apply RW_st; exact gk; exact st1))
  refine CW_cond_dec rfl (fun h => ?_) (fun h => ?_)
  · have e : valueF n c = vStr (valueWords.getD (n / 9 % 8).toNat []) := by unfold valueF; rw [if_neg n0, if_neg n1, if_neg n2, if_neg n3, if_pos h]
    rw [e]
    repeat (first | apply CW_seq | apply CW_region | apply RW_nil | apply thenQ_normal | apply thenQ_ret | apply thenQ_exit | apply blockQ_normal | apply blockQ_ret | apply blockQ_exit | (apply Xn; exact rfl) | apply CW_skip | apply CW_ret | apply CW_exit | apply CW_block | (apply CW_cf; exact rfl; exact bf) | (apply CW_ct; exact rfl; exact bt) | (apply RW_no; exact rfl; exact rfl; exact rfl; exact rfl; exact bn) | (apply RWu; exact rfl; exact rfl; exact rfl; exact rfl) | (apply RW_same; exact rfl; exact gk; exact op1) | (apply RW_box; exact rfl; exact gk; (first | exact T_alloc | exact T_boxA rfl | exact T_box1 rfl rfl); intro _) | (apply RW_st; exact gk; exact st1))
    refine RW_any rfl (by exact gk) (T_buildSlice (by rfl) (by decide) (by exact bd)) ?_; rintro _ _ _ _ ⟨b31, rfl, rfl, rfl⟩
    repeat (first | apply CW_seq | apply CW_region | apply RW_nil | apply thenQ_normal | apply thenQ_ret | apply thenQ_exit | apply blockQ_normal | apply blockQ_ret | apply blockQ_exit | (apply Xn; exact rfl) | apply CW_skip | apply CW_ret | apply CW_exit | apply CW_block | (apply CW_cf; exact rfl; exact bf) | (apply CW_ct; exact rfl; exact bt) | (apply RW_no; exact rfl; exact rfl; exact rfl; exact rfl; exact bn) | (apply RWu; exact rfl; exact rfl; exact rfl; exact rfl) | (apply RW_same; exact rfl; exact gk; exact op1) | (apply RW_box; exact rfl; exact gk; (first | exact T_alloc | exact T_boxA rfl | exact T_box1 rfl rfl); intro _) | (apply RW_st; exact gk; exact st1))
    have hlt : (n / 9 % 8).toNat < valueWords.length := by show _ < 8; omega
    refine RW_indexH (l := valueWords) rfl (by exact gk) rfl (RdV_box (by (repeat (first | exact List.Mem.head _ | apply List.Mem.tail | apply List.mem_append_right))) (RepL.strs valueWords) rfl) rfl rfl (by show 0 ≤ n / 9 % 8 ∧ n / 9 % 8 < 8; omega) ?_
    rintro b o cs hcs hats
    rw [List.getD_eq_getElem?_getD, List.getElem?_eq_getElem hlt]
    generalize valueWords[(n / 9 % 8).toNat] = wd at *
    subst hcs
    have hat := hats 0 _ rfl
    repeat (first | apply CW_seq | apply CW_region | apply RW_nil | apply thenQ_normal | apply thenQ_ret | apply thenQ_exit | apply blockQ_normal | apply blockQ_ret | apply blockQ_exit | (apply Xn; exact rfl) | apply CW_skip | apply CW_ret | apply CW_exit | apply CW_block | (apply CW_cf; exact rfl; exact bf) | (apply CW_ct; exact rfl; exact bt) | (apply RW_no; exact rfl; exact rfl; exact rfl; exact rfl; exact bn) | (apply RWu; exact rfl; exact rfl; exact rfl; exact rfl) | (apply RW_same; exact rfl; exact gk; exact op1) | (apply RW_box; exact rfl; exact gk; (first | exact T_alloc | exact T_boxA rfl | exact T_box1 rfl rfl); intro _) | (apply RW_st; exact gk; exact st1))
    first | refine rR (H) (h := ?_) | refine rN (H) (h := ?_)
    exact ⟨rfl, rfl, rfl⟩
  have n5 := h
  repeat (first | apply CW_seq | apply CW_region | apply RW_nil | apply thenQ_normal | apply thenQ_ret | apply thenQ_exit | apply blockQ_normal | apply blockQ_ret | apply blockQ_exit | (apply Xn; exact rfl) | apply CW_skip | apply CW_ret | apply CW_exit | apply CW_block | (apply CW_cf; exact rfl; exact bf) | (apply CW_ct; exact rfl; exact bt) | (apply RW_no; exact rfl; exact rfl; exact rfl; exact rfl; exact bn) | (apply RWu; exact rfl; exact rfl; exact rfl; exact rfl) | (apply RW_same; exact rfl; exact gk; exact op1) | (apply RW_box; exact rfl; exact gk; (first | exact T_alloc | exact T_boxA rfl | exact T_box1 rfl rfl); intro _) | (apply RW_st; exact gk; exact st1))
  refine CW_cond_dec rfl (fun h => ?_) (fun h => ?_)
  · have n7 := h
    repeat (first | apply CW_seq | apply CW_region | apply RW_nil | apply thenQ_normal | apply thenQ_ret | apply thenQ_exit | apply blockQ_normal | apply blockQ_ret | apply blockQ_exit | (apply Xn; exact rfl) | apply CW_skip | apply CW_ret | apply CW_exit | apply CW_block | (apply CW_cf; exact rfl; exact bf) | (apply CW_ct; exact rfl; exact bt) | (apply RW_no; exact rfl; exact rfl; exact rfl; exact rfl; exact bn) | (apply RWu; exact rfl; exact rfl; exact rfl; exact rfl) | (apply RW_same; exact rfl; exact gk; exact op1) | (apply RW_box; exact rfl; exact gk; (first | exact T_alloc | exact T_boxA rfl | exact T_box1 rfl rfl); intro _) | (apply RW_st; exact gk; exact st1))
    refine CW_cond_dec rfl (fun h => ?_) (fun h => ?_)
    · have e : valueF n c = ⟨5, 1 + n / 9 % c, []⟩ := by unfold valueF; rw [if_neg n0, if_neg n1, if_neg n2, if_neg n3, if_neg n5, if_pos ⟨n7, h⟩]
      rw [e]
      have h1 := Int.emod_nonneg (n / 9) (show c ≠ 0 by omega)
      have h2 := Int.emod_lt_of_pos (n / 9) h
      repeat (first | apply CW_seq | apply CW_region | apply RW_nil | apply thenQ_normal | apply thenQ_ret | apply thenQ_exit | apply blockQ_normal | apply blockQ_ret | apply blockQ_exit | (apply Xn; exact rfl) | apply CW_skip | apply CW_ret | apply CW_exit | apply CW_block | (apply CW_cf; exact rfl; exact bf) | (apply CW_ct; exact rfl; exact bt) | (apply RW_no; exact rfl; exact rfl; exact rfl; exact rfl; exact bn) | (apply RWu; exact rfl; exact rfl; exact rfl; exact rfl) | (apply RW_same; exact rfl; exact gk; exact op1) | (apply RW_box; exact rfl; exact gk; (first | exact T_alloc | exact T_boxA rfl | exact T_box1 rfl rfl); intro _) | (apply RW_st; exact gk; exact st1))
      first | refine rR (H) (h := ?_) | refine rN (H) (h := ?_)
      exact ⟨rfl, rfl, rfl⟩
    · have e : valueF n c = vOwn [110, 111, 119] := by unfold valueF; rw [if_neg n0, if_neg n1, if_neg n2, if_neg n3, if_neg n5, if_neg (fun q => h q.2)]
      rw [e]
      repeat (first | apply CW_seq | apply CW_region | apply RW_nil | apply thenQ_normal | apply thenQ_ret | apply thenQ_exit | apply blockQ_normal | apply blockQ_ret | apply blockQ_exit | (apply Xn; exact rfl) | apply CW_skip | apply CW_ret | apply CW_exit | apply CW_block | (apply CW_cf; exact rfl; exact bf) | (apply CW_ct; exact rfl; exact bt) | (apply RW_no; exact rfl; exact rfl; exact rfl; exact rfl; exact bn) | (apply RWu; exact rfl; exact rfl; exact rfl; exact rfl) | (apply RW_same; exact rfl; exact gk; exact op1) | (apply RW_box; exact rfl; exact gk; (first | exact T_alloc | exact T_boxA rfl | exact T_box1 rfl rfl); intro _) | (apply RW_st; exact gk; exact st1))
      first | refine rR (H) (h := ?_) | refine rN (H) (h := ?_)
      exact ⟨rfl, rfl, rfl⟩
  · have e : valueF n c = vOwn [110, 111, 119] := by unfold valueF; rw [if_neg n0, if_neg n1, if_neg n2, if_neg n3, if_neg n5, if_neg (fun q => h q.1)]
    rw [e]
    repeat (first | apply CW_seq | apply CW_region | apply RW_nil | apply thenQ_normal | apply thenQ_ret | apply thenQ_exit | apply blockQ_normal | apply blockQ_ret | apply blockQ_exit | (apply Xn; exact rfl) | apply CW_skip | apply CW_ret | apply CW_exit | apply CW_block | (apply CW_cf; exact rfl; exact bf) | (apply CW_ct; exact rfl; exact bt) | (apply RW_no; exact rfl; exact rfl; exact rfl; exact rfl; exact bn) | (apply RWu; exact rfl; exact rfl; exact rfl; exact rfl) | (apply RW_same; exact rfl; exact gk; exact op1) | (apply RW_box; exact rfl; exact gk; (first | exact T_alloc | exact T_boxA rfl | exact T_box1 rfl rfl); intro _) | (apply RW_st; exact gk; exact st1))
    first | refine rR (H) (h := ?_) | refine rN (H) (h := ?_)
    exact ⟨rfl, rfl, rfl⟩
end Go.Proofs.YtbhpofplencjgaaDoor
