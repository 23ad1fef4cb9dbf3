/- What an object has, or what it comes of. Conditions: none. -/
import Derived.Test.YtbhpofplencjgaaDoorP7
namespace Go.Proofs.YtbhpofplencjgaaDoor
open Go Go.WL
set_option linter.unusedSimpArgs false
set_option linter.unusedVariables false
attribute [local irreducible] OpP OpT RW CW AW FnR FnP BinR At thenQ blockQ bodyQ

/-- prototypes are objects that are there before -/
def WP (cells : List Cel) : Prop := ∀ i (hi : i < cells.length), cells[i].kind = 1 → 0 ≤ cells[i].a ∧ cells[i].a ≤ i ∧ cells[i].keys.length = cells[i].vals.length ∧ (∀ j (hj : j < cells.length), cells[i].a = j + 1 → cells[j].kind = 1)

def chainF (cells : List Cel) (name : S) : Nat → Cel → Val
  | 0, c => match find c.keys name with | some i => c.vals.getD i vUndef | none => vUndef
  | k + 1, c => match find c.keys name with
    | some i => c.vals.getD i vUndef
    | none => if c.a = 0 then vUndef else match cells[(c.a - 1).toNat]? with | some d => chainF cells name k d | none => vUndef

theorem chainF_found {cells name k c i} (h : find c.keys name = some i) : chainF cells name k c = c.vals.getD i vUndef := by cases k <;> simp [chainF, h]
theorem chainF_end {cells name k c} (h : find c.keys name = none) (ha : c.a = 0) : chainF cells name k c = vUndef := by cases k <;> simp [chainF, h, ha]
theorem chainF_next {cells name k c} (h : find c.keys name = none) (ha : c.a ≠ 0) (hi : (c.a - 1).toNat < cells.length) : chainF cells name (k + 1) c = chainF cells name k cells[(c.a - 1).toNat] := by
  simp only [chainF, h]
  rw [if_neg ha, List.getElem?_eq_getElem hi]

structure ChSt where
  c : Cel
  kv : Value
  vv : Value
  m : Mem
  K : Nat

/-- a cell from which a chain may go -/
def Chn (cells : List Cel) (c : Cel) : Prop := 0 ≤ c.a ∧ c.a ≤ cells.length ∧ c.keys.length = c.vals.length ∧ c.keys.length ≤ 1000000 ∧ ∀ j (hj : j < cells.length), c.a = j + 1 → cells[j].kind = 1

theorem props_chain {h : Nat} {m : Mem} {hs F : Hp} {cells : List Cel} {c : Cel} {kv vv : Value} {name : S} (hh : HeapAt m h cells hs) (hw : WP cells) (hc : Chn cells c) (hkv : SlV m kv c.keys) (hvv : SlV m vv c.vals) :
    FnR Tryd.prog 54 #[.pointer (some ⟨h, 0, none⟩), .agg #[.int .i64 c.kind, .int .i64 c.a, .int .i64 c.b, kv, vv], str name] m (hs ++ F) fun v m' H' =>
      v = .agg ⟨(chainF cells name c.a.toNat c).cs⟩ ∧ H' = hs ++ F := by
  have hn : cells.length ≤ 4096 := by obtain ⟨_, _, _, hb⟩ := hh; exact hb.n
  have hsmall : ∀ x ∈ cells, Small x := by obtain ⟨_, _, _, hb⟩ := hh; exact hb.small
  refine FnR.enter Tryd.func54 rfl Tryd.ntmps54 rfl fun s => ?_
  repeat (first | apply CW_seq | apply CW_region | apply RW_nil | apply thenQ_normal | apply thenQ_ret | apply thenQ_exit | apply blockQ_normal | apply blockQ_ret | apply blockQ_exit | (apply Xn; exact rfl) | apply CW_skip | apply CW_ret | apply CW_exit | apply CW_block | (apply CW_cf; exact rfl; exact bf) | (apply CW_ct; exact rfl; exact bt) | (apply RW_no; exact rfl; exact rfl; exact rfl; exact rfl; exact bn) | (apply RWu; exact rfl; exact rfl; exact rfl; exact rfl) | (apply RW_same; exact rfl; exact gk; exact op1) | (apply RW_box; exact rfl; exact gk; (first | exact T_alloc | exact T_boxA rfl | exact T_box1 rfl rfl); intro _) | (apply RW_st; exact gk; exact st1))
  rename_i b4 b6
  refine CW_loop (fun x : ChSt => [(0, .pointer (some ⟨h, 0, none⟩)), (2, str name), (4, .pointer (some ⟨b4, 0, none⟩)), (6, .pointer (some ⟨b6, 0, none⟩))]) (fun x => x.m)
    (fun x => (b6, box 33 [.int .i64 0, .int .i64 0, .string ⟨#[]⟩]) :: (b4, box 31 [.int .i64 x.c.kind, .int .i64 x.c.a, .int .i64 x.c.b, x.kv, x.vv]) :: (hs ++ F))
    (fun x => HeapAt x.m h cells hs ∧ Chn cells x.c ∧ SlV x.m x.kv x.c.keys ∧ SlV x.m x.vv x.c.vals ∧ x.c.a.toNat ≤ x.K ∧ chainF cells name x.K x.c = chainF cells name c.a.toNat c)
    (fun x => x.c.a.toNat) ⟨c, kv, vv, m, c.a.toNat⟩ (by exact sb) rfl (.refl _) ⟨hh, hc, hkv, hvv, Nat.le_refl _, rfl⟩ ?_
  clear hkv hvv hh
  rintro ⟨d, kv, vv, m1, K⟩ ⟨hh, ⟨ha0, ha1, hkl, hks, hpr⟩, hkv, hvv, hK, hT⟩
  dsimp only at hh ha0 ha1 hkl hks hpr hkv hvv hK hT ⊢
  repeat (first | apply CW_seq | apply CW_region | apply RW_nil | apply thenQ_normal | apply thenQ_ret | apply thenQ_exit | apply blockQ_normal | apply blockQ_ret | apply blockQ_exit | (apply Xn; exact rfl) | apply CW_skip | apply CW_ret | apply CW_exit | apply CW_block | (apply CW_cf; exact rfl; exact bf) | (apply CW_ct; exact rfl; exact bt) | (apply RW_no; exact rfl; exact rfl; exact rfl; exact rfl; exact bn) | (apply RWu; exact rfl; exact rfl; exact rfl; exact rfl) | (apply RW_same; exact rfl; exact gk; exact op1) | (apply RW_box; exact rfl; exact gk; (first | exact T_alloc | exact T_boxA rfl | exact T_box1 rfl rfl); intro _) | (apply RW_st; exact gk; exact st1))
  refine RW_call rfl (by exact gk) rfl (props_place (hkv.rd _) hks) ?_
  rintro _ _ _ _ ⟨rfl, rfl, rfl⟩
  repeat (first | apply CW_seq | apply CW_region | apply RW_nil | apply thenQ_normal | apply thenQ_ret | apply thenQ_exit | apply blockQ_normal | apply blockQ_ret | apply blockQ_exit | (apply Xn; exact rfl) | apply CW_skip | apply CW_ret | apply CW_exit | apply CW_block | (apply CW_cf; exact rfl; exact bf) | (apply CW_ct; exact rfl; exact bt) | (apply RW_no; exact rfl; exact rfl; exact rfl; exact rfl; exact bn) | (apply RWu; exact rfl; exact rfl; exact rfl; exact rfl) | (apply RW_same; exact rfl; exact gk; exact op1) | (apply RW_box; exact rfl; exact gk; (first | exact T_alloc | exact T_boxA rfl | exact T_box1 rfl rfl); intro _) | (apply RW_st; exact gk; exact st1))
  refine CW_cond rfl (fun h => ?_) (fun h => ?_)
  · obtain ⟨i, hi⟩ := Option.isSome_iff_exists.1 h
    have hlt := find_lt hi
    obtain ⟨av, cv, rfl, hcv, hsv⟩ := hvv
    rw [show findI d.keys name = i by simp [findI, hi]]
    repeat (first | apply CW_seq | apply CW_region | apply RW_nil | apply thenQ_normal | apply thenQ_ret | apply thenQ_exit | apply blockQ_normal | apply blockQ_ret | apply blockQ_exit | (apply Xn; exact rfl) | apply CW_skip | apply CW_ret | apply CW_exit | apply CW_block | (apply CW_cf; exact rfl; exact bf) | (apply CW_ct; exact rfl; exact bt) | (apply RW_no; exact rfl; exact rfl; exact rfl; exact rfl; exact bn) | (apply RWu; exact rfl; exact rfl; exact rfl; exact rfl) | (apply RW_same; exact rfl; exact gk; exact op1) | (apply RW_box; exact rfl; exact gk; (first | exact T_alloc | exact T_boxA rfl | exact T_box1 rfl rfl); intro _) | (apply RW_st; exact gk; exact st1))
    refine RW_index rfl (by exact gk) rfl hsv rfl rfl (by omega) ?_
    rintro b o cs hcs hats
    simp only [Int.toNat_natCast] at hcs
    subst hcs
    repeat (first | apply CW_seq | apply CW_region | apply RW_nil | apply thenQ_normal | apply thenQ_ret | apply thenQ_exit | apply blockQ_normal | apply blockQ_ret | apply blockQ_exit | (apply Xn; exact rfl) | apply CW_skip | apply CW_ret | apply CW_exit | apply CW_block | (apply CW_cf; exact rfl; exact bf) | (apply CW_ct; exact rfl; exact bt) | (apply RW_no; exact rfl; exact rfl; exact rfl; exact rfl; exact bn) | (apply RWu; exact rfl; exact rfl; exact rfl; exact rfl) | (apply RW_same; exact rfl; exact gk; exact op1) | (apply RW_box; exact rfl; exact gk; (first | exact T_alloc | exact T_boxA rfl | exact T_box1 rfl rfl); intro _) | (apply RW_st; exact gk; exact st1))
    first | refine rR (hs ++ F) (h := ?_) | refine rN (hs ++ F) (h := ?_)
    refine ⟨?_, rfl⟩
    rw [← hT, chainF_found hi]
    simp only [tupleOf]
    rw [show d.vals.getD i vUndef = d.vals[i] by rw [List.getD_eq_getElem?_getD, List.getElem?_eq_getElem (by omega)]; rfl]
  · have hno : find d.keys name = none := by simpa using h
    repeat (first | apply CW_seq | apply CW_region | apply RW_nil | apply thenQ_normal | apply thenQ_ret | apply thenQ_exit | apply blockQ_normal | apply blockQ_ret | apply blockQ_exit | (apply Xn; exact rfl) | apply CW_skip | apply CW_ret | apply CW_exit | apply CW_block | (apply CW_cf; exact rfl; exact bf) | (apply CW_ct; exact rfl; exact bt) | (apply RW_no; exact rfl; exact rfl; exact rfl; exact rfl; exact bn) | (apply RWu; exact rfl; exact rfl; exact rfl; exact rfl) | (apply RW_same; exact rfl; exact gk; exact op1) | (apply RW_box; exact rfl; exact gk; (first | exact T_alloc | exact T_boxA rfl | exact T_box1 rfl rfl); intro _) | (apply RW_st; exact gk; exact st1))
    refine CW_cond_dec rfl (fun h => ?_) (fun h => ?_)
    · repeat (first | apply CW_seq | apply CW_region | apply RW_nil | apply thenQ_normal | apply thenQ_ret | apply thenQ_exit | apply blockQ_normal | apply blockQ_ret | apply blockQ_exit | (apply Xn; exact rfl) | apply CW_skip | apply CW_ret | apply CW_exit | apply CW_block | (apply CW_cf; exact rfl; exact bf) | (apply CW_ct; exact rfl; exact bt) | (apply RW_no; exact rfl; exact rfl; exact rfl; exact rfl; exact bn) | (apply RWu; exact rfl; exact rfl; exact rfl; exact rfl) | (apply RW_same; exact rfl; exact gk; exact op1) | (apply RW_box; exact rfl; exact gk; (first | exact T_alloc | exact T_boxA rfl | exact T_box1 rfl rfl); intro _) | (apply RW_st; exact gk; exact st1))
      first | refine rR (hs ++ F) (h := ?_) | refine rN (hs ++ F) (h := ?_)
      refine ⟨?_, rfl⟩
      rw [← hT, chainF_end hno (by assumption)]
      rfl
    · have hne : d.a ≠ 0 := h
      repeat (first | apply CW_seq | apply CW_region | apply RW_nil | apply thenQ_normal | apply thenQ_ret | apply thenQ_exit | apply blockQ_normal | apply blockQ_ret | apply blockQ_exit | (apply Xn; exact rfl) | apply CW_skip | apply CW_ret | apply CW_exit | apply CW_block | (apply CW_cf; exact rfl; exact bf) | (apply CW_ct; exact rfl; exact bt) | (apply RW_no; exact rfl; exact rfl; exact rfl; exact rfl; exact bn) | (apply RWu; exact rfl; exact rfl; exact rfl; exact rfl) | (apply RW_same; exact rfl; exact gk; exact op1) | (apply RW_box; exact rfl; exact gk; (first | exact T_alloc | exact T_boxA rfl | exact T_box1 rfl rfl); intro _) | (apply RW_st; exact gk; exact st1))
      refine RW_call rfl (by exact gk) rfl (FnR.perm (H := hs ++ ((b6, box 33 [.int .i64 0, .int .i64 0, .string ⟨#[]⟩]) :: (b4, box 31 [.int .i64 d.kind, .int .i64 d.a, .int .i64 d.b, kv, vv]) :: F)) (by exact pm) (heap_Load hh (by omega))) ?_
      rintro _ _ _ _ ⟨kv', vv', h1, h2, rfl, ⟨a1, p1, rfl, hp1, ho1⟩, ⟨a2, p2, rfl, hp2, ho2⟩, rfl, rfl⟩
      have hidx : (d.a - 1).toNat < cells.length := by omega
      have hcast : d.a = ((d.a - 1).toNat : Int) + 1 := by omega
      have hkind := hpr _ hidx hcast
      obtain ⟨q1, q2, q3, q4⟩ := hw _ hidx hkind
      have hnext := chainF_next (cells := cells) (name := name) (k := K - 1) hno hne hidx
      rw [show K - 1 + 1 = K by omega] at hnext
      rw [hT] at hnext
      have hsm := hsmall _ (List.getElem_mem hidx)
      generalize cells[(d.a - 1).toNat] = e at *
      refine RW.freeze ho2 (.refl _) fun m2 hle1 hs2 => ?_
      refine RW.freeze (ho1.mono hle1) (.refl _) fun m3 hle2 hs1 => ?_
      repeat (first | apply CW_seq | apply CW_region | apply RW_nil | apply thenQ_normal | apply thenQ_ret | apply thenQ_exit | apply blockQ_normal | apply blockQ_ret | apply blockQ_exit | (apply Xn; exact rfl) | apply CW_skip | apply CW_ret | apply CW_exit | apply CW_block | (apply CW_cf; exact rfl; exact bf) | (apply CW_ct; exact rfl; exact bt) | (apply RW_no; exact rfl; exact rfl; exact rfl; exact rfl; exact bn) | (apply RWu; exact rfl; exact rfl; exact rfl; exact rfl) | (apply RW_same; exact rfl; exact gk; exact op1) | (apply RW_box; exact rfl; exact gk; (first | exact T_alloc | exact T_boxA rfl | exact T_box1 rfl rfl); intro _) | (apply RW_st; exact gk; exact st1))
      refine ⟨⟨e, .slice a1 e.keys.length p1, .slice a2 e.vals.length p2, m3, K - 1⟩, ⟨hh.mono (hle1.trans hle2), ⟨q1, by show e.a ≤ _; omega, q3, hsm.1, fun j hj => q4 j hj⟩, ⟨_, _, rfl, hp1, hs1⟩, ⟨_, _, rfl, hp2, hs2.mono hle2⟩, by show e.a.toNat ≤ K - 1; omega, hnext.symm⟩, by show e.a.toNat < d.a.toNat; omega, by exact sb, rfl, [_], by exact pm⟩
end Go.Proofs.YtbhpofplencjgaaDoor
