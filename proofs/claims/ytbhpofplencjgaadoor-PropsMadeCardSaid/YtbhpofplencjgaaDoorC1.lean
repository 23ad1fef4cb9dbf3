/- Numbers as texts; a value by a number. Conditions: none. -/
import Derived.Test.YtbhpofplencjgaaDoorB7
import Derived.Test.YtbhpofplencjgaaDoorL10
import Derived.Lib.ItoaMem
namespace Go.Proofs.YtbhpofplencjgaaDoor
open Go Go.WL
set_option linter.unusedSimpArgs false
set_option linter.unusedVariables false
attribute [local irreducible] OpP OpT RW CW AW FnR FnP BinR At thenQ blockQ bodyQ

theorem itoa_neg1 {n : Int} (h : -10 < n ∧ n < 0) : Lib.itoa n = [45, UInt8.ofNat (48 - n).toNat] := by
  unfold Lib.itoa
  rw [if_pos h.2, Lib.decDigits_one (by omega), show 48 + n.natAbs = (48 - n).toNat by omega]
theorem itoa_negm {n : Int} (h : n ≤ -10) : Lib.itoa n = Lib.itoa (n.tdiv 10) ++ [UInt8.ofNat (48 - n.tmod 10).toNat] := by
  obtain ⟨u, rfl⟩ : ∃ u : Nat, n = -(u : Int) := ⟨n.natAbs, by omega⟩
  have e1 : (-(u : Int)).tdiv 10 = -((u / 10 : Nat) : Int) := by rw [Int.neg_tdiv]; rfl
  have e2 : (-(u : Int)).tmod 10 = -((u % 10 : Nat) : Int) := by rw [Int.neg_tmod]; rfl
  rw [e1, e2, Lib.itoa_neg u (by omega), Lib.itoa_neg (u / 10) (by omega), Lib.decDigits, dif_neg (by omega)]
  simp only [List.cons_append]
  congr 3
  congr 1
  omega
theorem itoa_one {n : Int} (h : 0 ≤ n ∧ n < 10) : Lib.itoa n = [UInt8.ofNat (48 + n).toNat] := by
  unfold Lib.itoa
  rw [if_neg (by omega), Lib.decDigits_one (by omega), show 48 + n.toNat = (48 + n).toNat by omega]
theorem itoa_more {n : Int} (h : 10 ≤ n) : Lib.itoa n = Lib.itoa (n.tdiv 10) ++ [UInt8.ofNat (48 + n.tmod 10).toNat] := by
  obtain ⟨u, rfl⟩ : ∃ u : Nat, n = (u : Int) := ⟨n.natAbs, by omega⟩
  have e1 : (u : Int).tdiv 10 = ((u / 10 : Nat) : Int) := rfl
  have e2 : (u : Int).tmod 10 = ((u % 10 : Nat) : Int) := rfl
  rw [e1, e2, Lib.itoa_nonneg, Lib.itoa_nonneg, Lib.decDigits, dif_neg (by omega)]
  congr 3
theorem tmod_neg {n : Int} (h : n < 0) : -9 ≤ n.tmod 10 ∧ n.tmod 10 ≤ 0 := by
  obtain ⟨u, rfl⟩ : ∃ u : Nat, n = -(u : Int) := ⟨n.natAbs, by omega⟩
  have e2 : (-(u : Int)).tmod 10 = -((u % 10 : Nat) : Int) := by rw [Int.neg_tmod]; rfl
  omega
theorem tmod_pos {n : Int} (h : 0 ≤ n) : 0 ≤ n.tmod 10 ∧ n.tmod 10 ≤ 9 := by
  obtain ⟨u, rfl⟩ : ∃ u : Nat, n = (u : Int) := ⟨n.natAbs, by omega⟩
  have e2 : (u : Int).tmod 10 = ((u % 10 : Nat) : Int) := rfl
  omega
theorem itoa_len (n : Int) : (Lib.itoa n).length ≤ n.natAbs + 2 := by
  have key : ∀ u : Nat, (Lib.decDigits u).length ≤ u + 1 := by
    intro u
    induction u using Nat.strongRecOn with
    | _ u ih =>
      rw [Lib.decDigits]
      split
      · simp
      · have := ih (u / 10) (by omega)
        simp; omega
  unfold Lib.itoa
  split
  · have := key n.natAbs; simp; omega
  · have := key n.toNat; omega
theorem itoa_len20 (n : Int) (h : -9223372036854775808 ≤ n ∧ n ≤ 9223372036854775807) : (Lib.itoa n).length ≤ 30 := by
  have key : ∀ (k u : Nat), u < 10 ^ k → 1 ≤ k → (Lib.decDigits u).length ≤ k := by
    intro k
    induction k with
    | zero => intro u _ h; omega
    | succ k ih =>
      intro u hu _
      rw [Lib.decDigits]
      split
      · simp
      · rename_i h10
        have hk : 1 ≤ k := by rcases Nat.eq_zero_or_pos k with rfl | h; omega; exact h
        have := ih (u / 10) (by rw [Nat.pow_succ] at hu; omega) hk
        simp; omega
  unfold Lib.itoa
  split
  · have := key 20 n.natAbs (by omega) (by omega); simp; omega
  · have := key 20 n.toNat (by omega) (by omega); omega

theorem r7_Digits {m : Mem} : ∀ (k : Nat) (n : Int) (H : Hp), n.natAbs ≤ k → -9223372036854775808 < n ∧ n ≤ 9223372036854775807 →
    FnR Tryd.prog 55 #[.int .i64 n] m H fun v' m' H' => v' = str (Lib.itoa n) ∧ m = m' ∧ H = H' := by
  intro k
  induction k using Nat.strongRecOn with
  | _ k ih =>
    intro n H hk hb
    refine FnR.enter Tryd.func55 rfl Tryd.ntmps55 rfl fun s => ?_
    repeat (first | apply CW_seq | apply CW_region | apply RW_nil | apply thenQ_normal | apply thenQ_ret | apply thenQ_exit | apply blockQ_normal | apply blockQ_ret | apply blockQ_exit | (apply Xn; exact rfl) | apply CW_skip | apply CW_ret | apply CW_exit | apply CW_block | (apply CW_cf; exact rfl; exact bf) | (apply CW_ct; exact rfl; exact bt) | (apply RW_no; exact rfl; exact rfl; exact rfl; exact rfl; exact bn) | (apply RWu; exact rfl; exact rfl; exact rfl; exact rfl) | (apply RW_same; exact rfl; exact gk; exact op1) | (apply RW_box; exact rfl; exact gk; (first | exact T_alloc | exact T_boxA rfl | exact T_box1 rfl rfl); intro _) | (apply RW_st; exact gk; exact st1))
    refine CW_cond_dec rfl (fun h => ?_) (fun h => ?_)
    · have hn := h
      repeat (first | apply CW_seq | apply CW_region | apply RW_nil | apply thenQ_normal | apply thenQ_ret | apply thenQ_exit | apply blockQ_normal | apply blockQ_ret | apply blockQ_exit | (apply Xn; exact rfl) | apply CW_skip | apply CW_ret | apply CW_exit | apply CW_block | (apply CW_cf; exact rfl; exact bf) | (apply CW_ct; exact rfl; exact bt) | (apply RW_no; exact rfl; exact rfl; exact rfl; exact rfl; exact bn) | (apply RWu; exact rfl; exact rfl; exact rfl; exact rfl) | (apply RW_same; exact rfl; exact gk; exact op1) | (apply RW_box; exact rfl; exact gk; (first | exact T_alloc | exact T_boxA rfl | exact T_box1 rfl rfl); intro _) | (apply RW_st; exact gk; exact st1))
      refine CW_cond_dec rfl (fun h => ?_) (fun h => ?_)
      · repeat (first | apply CW_seq | apply CW_region | apply RW_nil | apply thenQ_normal | apply thenQ_ret | apply thenQ_exit | apply blockQ_normal | apply blockQ_ret | apply blockQ_exit | (apply Xn; exact rfl) | apply CW_skip | apply CW_ret | apply CW_exit | apply CW_block | (apply CW_cf; exact rfl; exact bf) | (apply CW_ct; exact rfl; exact bt) | (apply RW_no; exact rfl; exact rfl; exact rfl; exact rfl; exact bn) | (apply RWu; exact rfl; exact rfl; exact rfl; exact rfl) | (apply RW_same; exact rfl; exact gk; exact op1) | (apply RW_box; exact rfl; exact gk; (first | exact T_alloc | exact T_boxA rfl | exact T_box1 rfl rfl); intro _) | (apply RW_st; exact gk; exact st1))
        refine RW_any rfl (by exact gk) (T_buildSlice (by rfl) (by decide) (by exact bd)) ?_; rintro _ _ _ _ ⟨b10, rfl, rfl, rfl⟩
        repeat (first | apply CW_seq | apply CW_region | apply RW_nil | apply thenQ_normal | apply thenQ_ret | apply thenQ_exit | apply blockQ_normal | apply blockQ_ret | apply blockQ_exit | (apply Xn; exact rfl) | apply CW_skip | apply CW_ret | apply CW_exit | apply CW_block | (apply CW_cf; exact rfl; exact bf) | (apply CW_ct; exact rfl; exact bt) | (apply RW_no; exact rfl; exact rfl; exact rfl; exact rfl; exact bn) | (apply RWu; exact rfl; exact rfl; exact rfl; exact rfl) | (apply RW_same; exact rfl; exact gk; exact op1) | (apply RW_box; exact rfl; exact gk; (first | exact T_alloc | exact T_boxA rfl | exact T_box1 rfl rfl); intro _) | (apply RW_st; exact gk; exact st1))
        first | refine rR (H) (h := ?_) | refine rN (H) (h := ?_)
        exact ⟨by rw [itoa_neg1 (by omega)]; rfl, rfl, rfl⟩
      · have h10 := h
        repeat (first | apply CW_seq | apply CW_region | apply RW_nil | apply thenQ_normal | apply thenQ_ret | apply thenQ_exit | apply blockQ_normal | apply blockQ_ret | apply blockQ_exit | (apply Xn; exact rfl) | apply CW_skip | apply CW_ret | apply CW_exit | apply CW_block | (apply CW_cf; exact rfl; exact bf) | (apply CW_ct; exact rfl; exact bt) | (apply RW_no; exact rfl; exact rfl; exact rfl; exact rfl; exact bn) | (apply RWu; exact rfl; exact rfl; exact rfl; exact rfl) | (apply RW_same; exact rfl; exact gk; exact op1) | (apply RW_box; exact rfl; exact gk; (first | exact T_alloc | exact T_boxA rfl | exact T_box1 rfl rfl); intro _) | (apply RW_st; exact gk; exact st1))
        have hq : (n.tdiv 10).natAbs = n.natAbs / 10 := by rw [Int.natAbs_tdiv]; rfl
        have hm1 : n.tmod 10 = n - 10 * n.tdiv 10 := by have := Int.mul_tdiv_add_tmod n 10; omega
        have hm2 := tmod_neg (n := n) (by omega)
        have hlen := itoa_len20 (n.tdiv 10) (by omega)
        have hI := fun H => ih (n.natAbs / 10) (by omega) (n.tdiv 10) H (by omega) (by omega)
        refine CW_draw (fun m' H' => True) 10 11 rfl (by kernel_rfl) ?_
        refine AW_take (i := 0) [10] rfl rfl rfl (by exact gk) (by kernel_rfl) (fun m' H' hSt => T_move rfl) ?_
        refine AW_take (i := 1) [10] rfl rfl rfl (by exact gk) (by kernel_rfl) (fun m' H' hSt => T_bin rfl rfl (BinR.quoz (by omega) (by decide))) ?_
        refine AW_take (i := 3) [10] rfl rfl rfl (by exact gk) (by kernel_rfl) (fun m' H' hSt => T_move rfl) ?_
        refine AW_take (i := 4) [10] rfl rfl rfl (by exact gk) (by kernel_rfl) (fun m' H' hSt => T_bin rfl rfl (BinR.remz (by decide))) ?_
        refine AW_take (i := 5) [10] rfl rfl rfl (by exact gk) (by kernel_rfl) (fun m' H' hSt => T_bin rfl rfl (BinR.sub (by omega))) ?_
        refine AW_take (i := 6) [10] rfl rfl rfl (by exact gk) (by kernel_rfl) (fun m' H' hSt => T_conv rfl (wrap_u8_id (by omega))) ?_
        refine AW_two (i := 2) (j := 7) (by kernel_rfl) (fun _ => trivial) ?_ ?_
        · refine AWop_call rfl (by exact gk) rfl rfl (T_call rfl (hI _)) ?_
          rintro _ _ _ _ ⟨rfl, rfl, rfl⟩
          refine AW_call (i := 7) (by kernel_rfl) (fun _ => trivial) rfl (by exact gk) rfl rfl (T_buildSlice (by rfl) (by decide) (by exact bd)) ?_
          rintro _ _ _ _ ⟨b20, rfl, rfl, rfl⟩
          refine AW_same (i := 8) (by kernel_rfl) (fun _ => trivial) rfl (by exact gk) rfl rfl (T_bytesStr1 rfl (by (repeat (first | exact List.Mem.head _ | apply List.Mem.tail | apply List.mem_append_right))) (by omega)) ?_
          (refine AW_same (i := 9) (by kernel_rfl) (fun _ => trivial) rfl (by exact gk) rfl rfl (T_bin rfl rfl (BinR.ladd (by simp only [List.length_cons, List.length_nil]; omega))) ?_); (refine AW_same (i := 10) (by kernel_rfl) (fun _ => trivial) rfl (by exact gk) rfl rfl (T_assign rfl) ?_); (refine AW_done (by kernel_rfl) (fun h => by cases h) ?_); (repeat (first | apply CW_seq | apply CW_region | apply RW_nil | apply thenQ_normal | apply thenQ_ret | apply thenQ_exit | apply blockQ_normal | apply blockQ_ret | apply blockQ_exit | (apply Xn; exact rfl) | apply CW_skip | apply CW_ret | apply CW_exit | apply CW_block | (apply CW_cf; exact rfl; exact bf) | (apply CW_ct; exact rfl; exact bt) | (apply RW_no; exact rfl; exact rfl; exact rfl; exact rfl; exact bn) | (apply RWu; exact rfl; exact rfl; exact rfl; exact rfl) | (apply RW_same; exact rfl; exact gk; exact op1) | (apply RW_box; exact rfl; exact gk; (first | exact T_alloc | exact T_boxA rfl | exact T_box1 rfl rfl); intro _) | (apply RW_st; exact gk; exact st1))); (first | refine rR (H) (h := ?_) | refine rN (H) (h := ?_))
          exact ⟨by rw [itoa_negm (n := n) (by omega)]; rfl, rfl, rfl⟩
        · refine AWop_call rfl (by exact gk) rfl rfl (T_buildSlice (by rfl) (by decide) (by exact bd)) ?_
          rintro _ _ _ _ ⟨b20, rfl, rfl, rfl⟩
          refine AW_two (i := 2) (j := 8) (by kernel_rfl) (fun _ => trivial) ?_ ?_
          · refine AWop_call rfl (by exact gk) rfl rfl (T_call rfl (hI _)) ?_
            rintro _ _ _ _ ⟨rfl, rfl, rfl⟩
            refine AW_same (i := 8) (by kernel_rfl) (fun _ => trivial) rfl (by exact gk) rfl rfl (T_bytesStr1 rfl (by (repeat (first | exact List.Mem.head _ | apply List.Mem.tail | apply List.mem_append_right))) (by omega)) ?_
            (refine AW_same (i := 9) (by kernel_rfl) (fun _ => trivial) rfl (by exact gk) rfl rfl (T_bin rfl rfl (BinR.ladd (by simp only [List.length_cons, List.length_nil]; omega))) ?_); (refine AW_same (i := 10) (by kernel_rfl) (fun _ => trivial) rfl (by exact gk) rfl rfl (T_assign rfl) ?_); (refine AW_done (by kernel_rfl) (fun h => by cases h) ?_); (repeat (first | apply CW_seq | apply CW_region | apply RW_nil | apply thenQ_normal | apply thenQ_ret | apply thenQ_exit | apply blockQ_normal | apply blockQ_ret | apply blockQ_exit | (apply Xn; exact rfl) | apply CW_skip | apply CW_ret | apply CW_exit | apply CW_block | (apply CW_cf; exact rfl; exact bf) | (apply CW_ct; exact rfl; exact bt) | (apply RW_no; exact rfl; exact rfl; exact rfl; exact rfl; exact bn) | (apply RWu; exact rfl; exact rfl; exact rfl; exact rfl) | (apply RW_same; exact rfl; exact gk; exact op1) | (apply RW_box; exact rfl; exact gk; (first | exact T_alloc | exact T_boxA rfl | exact T_box1 rfl rfl); intro _) | (apply RW_st; exact gk; exact st1))); (first | refine rR (H) (h := ?_) | refine rN (H) (h := ?_))
            exact ⟨by rw [itoa_negm (n := n) (by omega)]; rfl, rfl, rfl⟩
          · refine AWop_same rfl (by exact gk) rfl rfl (T_bytesStr1 rfl (by (repeat (first | exact List.Mem.head _ | apply List.Mem.tail | apply List.mem_append_right))) (by omega)) ?_
            refine AW_call (i := 2) (by kernel_rfl) (fun _ => trivial) rfl (by exact gk) rfl rfl (T_call rfl (hI _)) ?_
            rintro _ _ _ _ ⟨rfl, rfl, rfl⟩
            (refine AW_same (i := 9) (by kernel_rfl) (fun _ => trivial) rfl (by exact gk) rfl rfl (T_bin rfl rfl (BinR.ladd (by simp only [List.length_cons, List.length_nil]; omega))) ?_); (refine AW_same (i := 10) (by kernel_rfl) (fun _ => trivial) rfl (by exact gk) rfl rfl (T_assign rfl) ?_); (refine AW_done (by kernel_rfl) (fun h => by cases h) ?_); (repeat (first | apply CW_seq | apply CW_region | apply RW_nil | apply thenQ_normal | apply thenQ_ret | apply thenQ_exit | apply blockQ_normal | apply blockQ_ret | apply blockQ_exit | (apply Xn; exact rfl) | apply CW_skip | apply CW_ret | apply CW_exit | apply CW_block | (apply CW_cf; exact rfl; exact bf) | (apply CW_ct; exact rfl; exact bt) | (apply RW_no; exact rfl; exact rfl; exact rfl; exact rfl; exact bn) | (apply RWu; exact rfl; exact rfl; exact rfl; exact rfl) | (apply RW_same; exact rfl; exact gk; exact op1) | (apply RW_box; exact rfl; exact gk; (first | exact T_alloc | exact T_boxA rfl | exact T_box1 rfl rfl); intro _) | (apply RW_st; exact gk; exact st1))); (first | refine rR (H) (h := ?_) | refine rN (H) (h := ?_))
            exact ⟨by rw [itoa_negm (n := n) (by omega)]; rfl, rfl, rfl⟩
    · have hn := h
      repeat (first | apply CW_seq | apply CW_region | apply RW_nil | apply thenQ_normal | apply thenQ_ret | apply thenQ_exit | apply blockQ_normal | apply blockQ_ret | apply blockQ_exit | (apply Xn; exact rfl) | apply CW_skip | apply CW_ret | apply CW_exit | apply CW_block | (apply CW_cf; exact rfl; exact bf) | (apply CW_ct; exact rfl; exact bt) | (apply RW_no; exact rfl; exact rfl; exact rfl; exact rfl; exact bn) | (apply RWu; exact rfl; exact rfl; exact rfl; exact rfl) | (apply RW_same; exact rfl; exact gk; exact op1) | (apply RW_box; exact rfl; exact gk; (first | exact T_alloc | exact T_boxA rfl | exact T_box1 rfl rfl); intro _) | (apply RW_st; exact gk; exact st1))
      refine CW_cond_dec rfl (fun h => ?_) (fun h => ?_)
      · repeat (first | apply CW_seq | apply CW_region | apply RW_nil | apply thenQ_normal | apply thenQ_ret | apply thenQ_exit | apply blockQ_normal | apply blockQ_ret | apply blockQ_exit | (apply Xn; exact rfl) | apply CW_skip | apply CW_ret | apply CW_exit | apply CW_block | (apply CW_cf; exact rfl; exact bf) | (apply CW_ct; exact rfl; exact bt) | (apply RW_no; exact rfl; exact rfl; exact rfl; exact rfl; exact bn) | (apply RWu; exact rfl; exact rfl; exact rfl; exact rfl) | (apply RW_same; exact rfl; exact gk; exact op1) | (apply RW_box; exact rfl; exact gk; (first | exact T_alloc | exact T_boxA rfl | exact T_box1 rfl rfl); intro _) | (apply RW_st; exact gk; exact st1))
        refine RW_any rfl (by exact gk) (T_buildSlice (by rfl) (by decide) (by exact bd)) ?_; rintro _ _ _ _ ⟨b10, rfl, rfl, rfl⟩
        repeat (first | apply CW_seq | apply CW_region | apply RW_nil | apply thenQ_normal | apply thenQ_ret | apply thenQ_exit | apply blockQ_normal | apply blockQ_ret | apply blockQ_exit | (apply Xn; exact rfl) | apply CW_skip | apply CW_ret | apply CW_exit | apply CW_block | (apply CW_cf; exact rfl; exact bf) | (apply CW_ct; exact rfl; exact bt) | (apply RW_no; exact rfl; exact rfl; exact rfl; exact rfl; exact bn) | (apply RWu; exact rfl; exact rfl; exact rfl; exact rfl) | (apply RW_same; exact rfl; exact gk; exact op1) | (apply RW_box; exact rfl; exact gk; (first | exact T_alloc | exact T_boxA rfl | exact T_box1 rfl rfl); intro _) | (apply RW_st; exact gk; exact st1))
        first | refine rR (H) (h := ?_) | refine rN (H) (h := ?_)
        exact ⟨by rw [itoa_one (by omega)]; rfl, rfl, rfl⟩
      · have h10 := h
        repeat (first | apply CW_seq | apply CW_region | apply RW_nil | apply thenQ_normal | apply thenQ_ret | apply thenQ_exit | apply blockQ_normal | apply blockQ_ret | apply blockQ_exit | (apply Xn; exact rfl) | apply CW_skip | apply CW_ret | apply CW_exit | apply CW_block | (apply CW_cf; exact rfl; exact bf) | (apply CW_ct; exact rfl; exact bt) | (apply RW_no; exact rfl; exact rfl; exact rfl; exact rfl; exact bn) | (apply RWu; exact rfl; exact rfl; exact rfl; exact rfl) | (apply RW_same; exact rfl; exact gk; exact op1) | (apply RW_box; exact rfl; exact gk; (first | exact T_alloc | exact T_boxA rfl | exact T_box1 rfl rfl); intro _) | (apply RW_st; exact gk; exact st1))
        have hq : (n.tdiv 10).natAbs = n.natAbs / 10 := by rw [Int.natAbs_tdiv]; rfl
        have hm1 : n.tmod 10 = n - 10 * n.tdiv 10 := by have := Int.mul_tdiv_add_tmod n 10; omega
        have hm2 := tmod_pos (n := n) (by omega)
        have hlen := itoa_len20 (n.tdiv 10) (by omega)
        have hI := fun H => ih (n.natAbs / 10) (by omega) (n.tdiv 10) H (by omega) (by omega)
        refine CW_draw (fun m' H' => True) 10 11 rfl (by kernel_rfl) ?_
        refine AW_take (i := 0) [10] rfl rfl rfl (by exact gk) (by kernel_rfl) (fun m' H' hSt => T_move rfl) ?_
        refine AW_take (i := 1) [10] rfl rfl rfl (by exact gk) (by kernel_rfl) (fun m' H' hSt => T_bin rfl rfl (BinR.quoz (by omega) (by decide))) ?_
        refine AW_take (i := 3) [10] rfl rfl rfl (by exact gk) (by kernel_rfl) (fun m' H' hSt => T_move rfl) ?_
        refine AW_take (i := 4) [10] rfl rfl rfl (by exact gk) (by kernel_rfl) (fun m' H' hSt => T_bin rfl rfl (BinR.remz (by decide))) ?_
        refine AW_take (i := 5) [10] rfl rfl rfl (by exact gk) (by kernel_rfl) (fun m' H' hSt => T_bin rfl rfl (BinR.add (by omega))) ?_
        refine AW_take (i := 6) [10] rfl rfl rfl (by exact gk) (by kernel_rfl) (fun m' H' hSt => T_conv rfl (wrap_u8_id (by omega))) ?_
        refine AW_two (i := 2) (j := 7) (by kernel_rfl) (fun _ => trivial) ?_ ?_
        · refine AWop_call rfl (by exact gk) rfl rfl (T_call rfl (hI _)) ?_
          rintro _ _ _ _ ⟨rfl, rfl, rfl⟩
          refine AW_call (i := 7) (by kernel_rfl) (fun _ => trivial) rfl (by exact gk) rfl rfl (T_buildSlice (by rfl) (by decide) (by exact bd)) ?_
          rintro _ _ _ _ ⟨b20, rfl, rfl, rfl⟩
          refine AW_same (i := 8) (by kernel_rfl) (fun _ => trivial) rfl (by exact gk) rfl rfl (T_bytesStr1 rfl (by (repeat (first | exact List.Mem.head _ | apply List.Mem.tail | apply List.mem_append_right))) (by omega)) ?_
          (refine AW_same (i := 9) (by kernel_rfl) (fun _ => trivial) rfl (by exact gk) rfl rfl (T_bin rfl rfl (BinR.ladd (by simp only [List.length_cons, List.length_nil]; omega))) ?_); (refine AW_same (i := 10) (by kernel_rfl) (fun _ => trivial) rfl (by exact gk) rfl rfl (T_assign rfl) ?_); (refine AW_done (by kernel_rfl) (fun h => by cases h) ?_); (repeat (first | apply CW_seq | apply CW_region | apply RW_nil | apply thenQ_normal | apply thenQ_ret | apply thenQ_exit | apply blockQ_normal | apply blockQ_ret | apply blockQ_exit | (apply Xn; exact rfl) | apply CW_skip | apply CW_ret | apply CW_exit | apply CW_block | (apply CW_cf; exact rfl; exact bf) | (apply CW_ct; exact rfl; exact bt) | (apply RW_no; exact rfl; exact rfl; exact rfl; exact rfl; exact bn) | (apply RWu; exact rfl; exact rfl; exact rfl; exact rfl) | (apply RW_same; exact rfl; exact gk; exact op1) | (apply RW_box; exact rfl; exact gk; (first | exact T_alloc | exact T_boxA rfl | exact T_box1 rfl rfl); intro _) | (apply RW_st; exact gk; exact st1))); (first | refine rR (H) (h := ?_) | refine rN (H) (h := ?_))
          exact ⟨by rw [itoa_more (n := n) (by omega)]; rfl, rfl, rfl⟩
        · refine AWop_call rfl (by exact gk) rfl rfl (T_buildSlice (by rfl) (by decide) (by exact bd)) ?_
          rintro _ _ _ _ ⟨b20, rfl, rfl, rfl⟩
          refine AW_two (i := 2) (j := 8) (by kernel_rfl) (fun _ => trivial) ?_ ?_
          · refine AWop_call rfl (by exact gk) rfl rfl (T_call rfl (hI _)) ?_
            rintro _ _ _ _ ⟨rfl, rfl, rfl⟩
            refine AW_same (i := 8) (by kernel_rfl) (fun _ => trivial) rfl (by exact gk) rfl rfl (T_bytesStr1 rfl (by (repeat (first | exact List.Mem.head _ | apply List.Mem.tail | apply List.mem_append_right))) (by omega)) ?_
            (refine AW_same (i := 9) (by kernel_rfl) (fun _ => trivial) rfl (by exact gk) rfl rfl (T_bin rfl rfl (BinR.ladd (by simp only [List.length_cons, List.length_nil]; omega))) ?_); (refine AW_same (i := 10) (by kernel_rfl) (fun _ => trivial) rfl (by exact gk) rfl rfl (T_assign rfl) ?_); (refine AW_done (by kernel_rfl) (fun h => by cases h) ?_); (repeat (first | apply CW_seq | apply CW_region | apply RW_nil | apply thenQ_normal | apply thenQ_ret | apply thenQ_exit | apply blockQ_normal | apply blockQ_ret | apply blockQ_exit | (apply Xn; exact rfl) | apply CW_skip | apply CW_ret | apply CW_exit | apply CW_block | (apply CW_cf; exact rfl; exact bf) | (apply CW_ct; exact rfl; exact bt) | (apply RW_no; exact rfl; exact rfl; exact rfl; exact rfl; exact bn) | (apply RWu; exact rfl; exact rfl; exact rfl; exact rfl) | (apply RW_same; exact rfl; exact gk; exact op1) | (apply RW_box; exact rfl; exact gk; (first | exact T_alloc | exact T_boxA rfl | exact T_box1 rfl rfl); intro _) | (apply RW_st; exact gk; exact st1))); (first | refine rR (H) (h := ?_) | refine rN (H) (h := ?_))
            exact ⟨by rw [itoa_more (n := n) (by omega)]; rfl, rfl, rfl⟩
          · refine AWop_same rfl (by exact gk) rfl rfl (T_bytesStr1 rfl (by (repeat (first | exact List.Mem.head _ | apply List.Mem.tail | apply List.mem_append_right))) (by omega)) ?_
            refine AW_call (i := 2) (by kernel_rfl) (fun _ => trivial) rfl (by exact gk) rfl rfl (T_call rfl (hI _)) ?_
            rintro _ _ _ _ ⟨rfl, rfl, rfl⟩
            (refine AW_same (i := 9) (by kernel_rfl) (fun _ => trivial) rfl (by exact gk) rfl rfl (T_bin rfl rfl (BinR.ladd (by simp only [List.length_cons, List.length_nil]; omega))) ?_); (refine AW_same (i := 10) (by kernel_rfl) (fun _ => trivial) rfl (by exact gk) rfl rfl (T_assign rfl) ?_); (refine AW_done (by kernel_rfl) (fun h => by cases h) ?_); (repeat (first | apply CW_seq | apply CW_region | apply RW_nil | apply thenQ_normal | apply thenQ_ret | apply thenQ_exit | apply blockQ_normal | apply blockQ_ret | apply blockQ_exit | (apply Xn; exact rfl) | apply CW_skip | apply CW_ret | apply CW_exit | apply CW_block | (apply CW_cf; exact rfl; exact bf) | (apply CW_ct; exact rfl; exact bt) | (apply RW_no; exact rfl; exact rfl; exact rfl; exact rfl; exact bn) | (apply RWu; exact rfl; exact rfl; exact rfl; exact rfl) | (apply RW_same; exact rfl; exact gk; exact op1) | (apply RW_box; exact rfl; exact gk; (first | exact T_alloc | exact T_boxA rfl | exact T_box1 rfl rfl); intro _) | (apply RW_st; exact gk; exact st1))); (first | refine rR (H) (h := ?_) | refine rN (H) (h := ?_))
            exact ⟨by rw [itoa_more (n := n) (by omega)]; rfl, rfl, rfl⟩
end Go.Proofs.YtbhpofplencjgaaDoor
