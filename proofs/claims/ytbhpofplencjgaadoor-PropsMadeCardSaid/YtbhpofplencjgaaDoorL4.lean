/- Slices, strings, structs that are built: the rules of the logic. Conditions: none. -/
import Derived.Test.YtbhpofplencjgaaDoorL3
namespace Go.WL
open Go

abbrev str (l : List UInt8) : Value := .string ⟨⟨l⟩⟩

/-! ## Building -/
def setL (z : List Value) (off : Nat) (cs : List Value) : List Value := z.take off ++ cs ++ z.drop (off + cs.length)

inductive SetLs : List Value → Nat → List Value → List Value → Prop
  | nil {z off} : SetLs z off [] z
  | cons {z off c cs z1 z'} (h : SetL z off c z1) (hs : SetLs z1 (off + 1) cs z') : SetLs z off (c :: cs) z'

inductive Bld (env : Env) (place : Nat → Option (Nat × Nat)) : List Value → List (Nat × Operand) → List Value → Prop
  | nil {z} : Bld env place z [] z
  | one {z i x v off z' r l} (hx : ev env x = some v) (hv : v.cells = #[v]) (hp : place i = some (off, 1)) (hs : SetL z off v z') (h : Bld env place z' r l) : Bld env place z ((i, x) :: r) l
  | agg {z i x cs off k z' r l} (hx : ev env x = some (.agg ⟨cs⟩)) (hp : place i = some (off, k)) (hk : cs.length = k) (h0 : Nat.blt 0 k = true) (hs : SetLs z off cs z') (h : Bld env place z' r l) : Bld env place z ((i, x) :: r) l

theorem SetLs.fold {z off cs z'} (h : SetLs z off cs z') : ∀ (k j : Nat), off = k + j → (cs.zipIdx j).foldl (fun (a : Array Value) (p : Value × Nat) => a.setIfInBounds (k + p.2) p.1) ⟨z⟩ = ⟨z'⟩ := by
  induction h with
  | nil => intro k j _; rfl
  | @cons z off c cs z1 z' h hs ih =>
    intro k j e
    rw [List.zipIdx_cons, List.foldl_cons]
    have e1 : (Array.mk z).setIfInBounds (k + j) c = ⟨z1⟩ := by
      rw [h.eq, e]; simp
    rw [e1]
    exact ih k (j + 1) (by omega)

theorem SetLs.len {z off cs z'} (h : SetLs z off cs z') : z'.length = z.length ∧ (cs ≠ [] → off + cs.length ≤ z.length) := by
  induction h with
  | nil => simp
  | @cons z off c cs z1 z' h hs ih =>
    have hlt := h.lt
    have h2 : z1 = z.set off c := h.eq
    have h3 : z1.length = z.length := by rw [h2]; simp
    refine ⟨by rw [ih.1, h3], fun _ => ?_⟩
    by_cases hc : cs = []
    · subst hc; simp; omega
    · have := ih.2 hc
      simp only [List.length_cons]
      omega

theorem fill_step {place : Nat → Option (Nat × Nat)} {z z' : List Value} {i off k : Nat} {v : Value} {cs : List Value} {rest : List (Nat × Value)} (hv : v.cells = ⟨cs⟩) (hp : place i = some (off, k)) (hk : cs.length = k) (hne : off + k ≤ z.length) (hs : SetLs z off cs z') :
    Instr.fill place ⟨z⟩ ((i, v) :: rest) = Instr.fill place ⟨z'⟩ rest := by
  simp only [Instr.fill, hp, hv]
  have h2 := hs.fold off 0 (by omega)
  have hl : (Array.mk cs).size = k := by simpa using hk
  rw [if_neg (by simp [hl]; omega)]
  congr 1
  rw [← h2]
  simp

theorem Bld.fill {env place z parts l a n} (hf : Fr n a env) (h : Bld env place z parts l) : Instr.fill place ⟨z⟩ (parts.map fun p => (p.1, a.eval p.2)) = some ⟨l⟩ := by
  induction h with
  | nil => rfl
  | @one z i x v off z' r l hx hv hp hs h ih =>
    rw [List.map_cons, hf.ev hx, fill_step (cs := [v]) hv hp rfl (by have := hs.lt; omega) (.cons hs .nil)]
    exact ih
  | @agg z i x cs off k z' r l hx hp hk h0 hs h ih =>
    have h0 := blt_lt h0
    rw [List.map_cons, hf.ev hx, fill_step (cs := cs) rfl hp hk (by have := hs.len.2 (by rintro rfl; simp at hk; omega); omega) hs]
    exact ih

section
variable {P : Program} {s : Strm} {n : Nat} {Q : Exit → Env → Mem → Hp → Prop} {env : Env} {m : Mem} {H : Hp} {ops : Array Oper} {rest : List Oper}
variable {d : Option Nat} {ty : TypeId} {pos : String} {aft : Array Edge} {gd : Option (Nat × Bool)}

theorem run_places {fs : Array Field} {pl : List (Nat × Nat)} (h : fs.toList.mapM (fun x => (P.info? x.type).map (fun i => (x.offset, i.size))) = some pl) (w : World) :
    (fs.mapM (fun f => do pure (f.offset, ← sizeOf f.type)) : Sem _).run P w = .ok ⟨pl⟩ w := by
  rw [← Array.toArray_toList (xs := fs), List.mapM_toArray, Sem.run_map]
  generalize fs.toList = l at h
  have key : ∀ (l : List Field) (pl : List (Nat × Nat)), l.mapM (fun x => (P.info? x.type).map (fun i => (x.offset, i.size))) = some pl →
      (l.mapM (fun f => do pure (f.offset, ← sizeOf f.type)) : Sem _).run P w = .ok pl w := by
    intro l
    induction l with
    | nil => intro pl h; simp at h; subst h; rfl
    | cons f r ih =>
      intro pl h
      simp only [List.mapM_cons, Option.bind_eq_bind, Option.bind_eq_some_iff, Option.map_eq_some_iff, Option.pure_def, Option.some.injEq] at h
      obtain ⟨p, ⟨i, hi, rfl⟩, q, hq, rfl⟩ := h
      have hs : (sizeOf f.type).run P w = .ok i.size w := by simp [sizeOf, typeInfo, hi]
      rw [List.mapM_cons, Sem.run_bind, Sem.run_bind, hs]
      simp only [Result.andThen_ok, Sem.run_pure]
      rw [Sem.run_bind, ih q hq]
      rfl
  rw [key l pl h]
  rfl

theorem T_build {T z pl parts l'} [hz : Zr P T z] [hs : FdsT P T pl] (hb : Bld env (fun i => pl[i]?) z parts l') :
    OpP P s n ⟨d, .build T ⟨parts⟩, ty, pos, aft, gd⟩ env m H ((.agg ⟨l'⟩)) :=
  fun a w hf _ => by
    obtain ⟨v, hv, hz'⟩ := run_zeroValue hz w
    have h := hs.h
    split at h
    · rename_i fs hu
      have hfill := hb.fill hf
      have hpl : (fun i : Nat => (Array.mk pl)[i]?) = (fun i : Nat => pl[i]?) := by funext i; simp
      simp only [execOp, Instr.build, Sem.run_bind, hv, Result.andThen_ok, run_underlying hu, run_places h, hz', Sem.run_pure, List.map_toArray]
      rw [hpl, show (List.map (fun x => (x.fst, a.eval x.snd)) parts) = parts.map fun p => (p.1, a.eval p.2) from rfl, hfill]
      rfl
    · cases h

/-! ## Slices -/
theorem T_indexAddr {T E sz by_ x y b o c l k i} [hs : SlT P T E sz by_] (hx : ev env x = some (.slice (some ⟨b, o, none⟩) l c)) (hy : ev env y = some (.int k i)) (h : 0 ≤ i ∧ i < l) :
    OpP P s n ⟨d, .indexAddr T x y, ty, pos, aft, gd⟩ env m H ((.pointer (some ⟨b, o + i.toNat * sz, none⟩))) :=
  fun a w hf _ => by
    obtain ⟨e, hi, h1, h2⟩ := hs.parts
    simp only [execOp, hf.ev hx, hf.ev hy, Instr.indexAt, Sem.run_bind, asIntOf, Sem.run_pure, Result.andThen_ok, run_underlying hs.u]
    rw [if_pos h]
    simp [sizeOf, typeInfo, hi, h1, Addr.add_lit]

theorem T_len {T E sz by_ x a0 l c} [hs : SlT P T E sz by_] (hx : ev env x = some (.slice a0 l c)) :
    OpP P s n ⟨d, .call { callee := .builtin .len, args := #[x], argTypes := #[T] }, ty, pos, aft, gd⟩ env m H ((.int .i64 l)) :=
  fun a w hf _ => by
    simp [execOp, resolve, invoke, builtin, hf.ev hx, Builtin.len_, run_underlying hs.u, goInt]
theorem T_lenS {T x l} [hs : StT P T] (hx : ev env x = some (.string ⟨⟨l⟩⟩)) :
    OpP P s n ⟨d, .call { callee := .builtin .len, args := #[x], argTypes := #[T] }, ty, pos, aft, gd⟩ env m H ((.int .i64 l.length)) :=
  fun a w hf _ => by
    simp [execOp, resolve, invoke, builtin, hf.ev hx, Builtin.len_, run_underlying hs.u, goInt]
    rfl

/-- s[i] of a string -/
theorem T_indexS {T x y l k i} [hs : StT P T] (hx : ev env x = some (.string ⟨⟨l⟩⟩)) (hy : ev env y = some (.int k i)) (h : 0 ≤ i ∧ i < l.length) :
    OpP P s n ⟨d, .index T x y, ty, pos, aft, gd⟩ env m H ((.int .u8 ((l.getD i.toNat 0).toNat : Int))) :=
  fun a w hf _ => by
    have hlt : i.toNat < l.length := by omega
    have hb : (⟨⟨l⟩⟩ : ByteArray)[i.toNat]? = some (l.getD i.toNat 0) := by
      rw [ByteArray.getElem?_lt' _ _ (by show i.toNat < l.length; exact hlt)]
      simp [List.getD, hlt]
      rfl
    simp only [execOp, hf.ev hx, hf.ev hy, Instr.index, Sem.run_bind, asIntOf, Sem.run_pure, Result.andThen_ok, run_underlying hs.u, if_pos h.1, hb]

/-- s[lo:hi] of a string; the bounds as they may stand -/
def evo (env : Env) : Option Operand → Option (Option Value)
  | none => some none
  | some x => (ev env x).map some

theorem Fr.evo {a env x v} (h : Fr n a env) (hx : WL.evo env x = some v) : x.map a.eval = v := by
  cases x with
  | none => simpa [WL.evo] using hx
  | some x =>
    simp only [WL.evo, Option.map_eq_some_iff] at hx
    obtain ⟨u, hu, rfl⟩ := hx
    simp [h.ev hu]

/-- a bound: what it is; missing: dflt -/
def bnd (dflt : Int) : Option Value → Option Int
  | none => some dflt
  | some (.int _ i) => some i
  | _ => none

theorem extract_list (l : List UInt8) (i j : Nat) : (⟨⟨l⟩⟩ : ByteArray).extract i j = ⟨⟨(l.drop i).take (j - i)⟩⟩ := by
  apply ByteArray.ext
  apply Array.ext'
  simp [ByteArray.data_extract]

theorem run_sliceBound {k : IntKind} {i : Int} {y : Nat} {code : BoundsCode} (h : 0 ≤ i ∧ i ≤ (y : Int)) (w : World) : (Instr.sliceBound (.int k i) y code).run P w = .ok i.toNat w := by
  simp only [Instr.sliceBound, asIntOf, Sem.run_bind, Sem.run_pure, Result.andThen_ok]
  rw [if_pos h]; rfl

theorem run_sliceBounds {b : Bool} {len cap : Nat} {vl vh i j} (hi' : bnd 0 vl = some i) (hj : bnd len vh = some j) (h : 0 ≤ i ∧ i ≤ j ∧ j ≤ cap) (w : World) :
    (Instr.sliceBounds b len cap vl vh none).run P w = .ok (i.toNat, j.toNat, cap) w := by
  unfold Instr.sliceBounds
  rcases vl with _ | vl <;> rcases vh with _ | vh
  · simp [bnd] at hi' hj; subst hi'; subst hj; simp
  · cases vh <;> simp [bnd] at hj
    rename_i k0 j0
    simp [bnd] at hi'; subst hi'; subst hj
    have h1 : (0 : Int) ≤ j0 ∧ j0 ≤ (cap : Int) := ⟨by omega, h.2.2⟩
    simp [run_sliceBound (P := P) h1]
  · cases vl <;> simp [bnd] at hi'
    rename_i k0 i0
    simp [bnd] at hj; subst hi'; subst hj
    have h2 : (0 : Int) ≤ i0 ∧ i0 ≤ (len : Int) := ⟨h.1, h.2.1⟩
    simp [run_sliceBound (P := P) h2]
  · cases vl <;> simp [bnd] at hi'
    rename_i k0 i0
    cases vh <;> simp [bnd] at hj
    rename_i k1 j0
    subst hi'; subst hj
    have h1 : (0 : Int) ≤ j0 ∧ j0 ≤ (cap : Int) := ⟨by omega, h.2.2⟩
    have h2 : (0 : Int) ≤ i0 ∧ i0 ≤ (j0.toNat : Int) := ⟨h.1, by omega⟩
    simp [run_sliceBound (P := P) h1, run_sliceBound (P := P) h2]

theorem T_sliceS {T x lo hi vl vh l i j} [hs : StT P T] (hx : ev env x = some (.string ⟨⟨l⟩⟩)) (hlo : evo env lo = some vl) (hhi : evo env hi = some vh) (hi' : bnd 0 vl = some i) (hj : bnd l.length vh = some j) (h : 0 ≤ i ∧ i ≤ j ∧ j ≤ l.length) :
    OpP P s n ⟨d, .slice T x lo hi none, ty, pos, aft, gd⟩ env m H ((.string ⟨⟨(l.drop i.toNat).take (j.toNat - i.toNat)⟩⟩)) :=
  fun a w hf _ => by
    have hb := run_sliceBounds (P := P) (b := false) (cap := l.length) hi' hj h w
    have hsz : (⟨⟨l⟩⟩ : ByteArray).size = l.length := rfl
    simp [execOp, hf.ev hx, hf.evo hlo, hf.evo hhi, Instr.sliceAt, Instr.slice, run_underlying hs.u, hsz, hb, extract_list]

/-- xs[lo:hi] -/
theorem T_sliceL {T E sz by_ x lo hi vl vh a0 l c i j} [hs : SlT P T E sz by_] (hx : ev env x = some (.slice a0 l c)) (hlo : evo env lo = some vl) (hhi : evo env hi = some vh) (hi' : bnd 0 vl = some i) (hj : bnd l vh = some j) (h : 0 ≤ i ∧ i ≤ j ∧ j ≤ c) :
    OpP P s n ⟨d, .slice T x lo hi none, ty, pos, aft, gd⟩ env m H ((.slice (if c = i.toNat then a0 else a0.map (·.add (i.toNat * sz))) (j.toNat - i.toNat) (c - i.toNat))) :=
  fun a w hf _ => by
    obtain ⟨e, hie, h1, h2⟩ := hs.parts
    have hb := run_sliceBounds (P := P) (b := true) (cap := c) hi' hj h w
    simp [execOp, hf.ev hx, hf.evo hlo, hf.evo hhi, Instr.sliceAt, Instr.slice, run_underlying hs.u, hb, sizeOf, typeInfo, hie, h1]

def repL : Nat → List Value → List Value
  | 0, _ => []
  | k + 1, z => z ++ repL k z

theorem repL_len (k : Nat) (z : List Value) : (repL k z).length = k * z.length := by
  induction k with
  | zero => simp [repL]
  | succ k ih => simp [repL, ih, Nat.succ_mul, Nat.add_comm]

theorem repL_get (z : List Value) : ∀ (k i : Nat), i < k * z.length → (repL k z)[i]? = z[i % z.length]? := by
  intro k
  induction k with
  | zero => intro i h; simp at h
  | succ k ih =>
    intro i h
    rw [repL]
    by_cases hi : i < z.length
    · rw [List.getElem?_append_left hi, Nat.mod_eq_of_lt hi]
    · have h' : i < k * z.length + z.length := by rw [← Nat.succ_mul]; exact h
      rw [List.getElem?_append_right (by omega), ih (i - z.length) (by omega), ← Nat.mod_eq_sub_mod (by omega)]

theorem range_repL (z : List Value) (k : Nat) : (Array.range (k * z.length)).map (fun i => (Array.mk z)[i % (Array.mk z).size]!) = ⟨repL k z⟩ := by
  apply Array.ext'
  apply List.ext_getElem?
  intro i
  simp only [Array.toList_map, Array.toList_range, List.getElem?_map]
  by_cases h : i < k * z.length
  · rw [repL_get z k i h, List.getElem?_range h]
    have hz : 0 < z.length := by
      rcases Nat.eq_zero_or_pos z.length with e | e
      · rw [e] at h; omega
      · exact e
    have hm : i % z.length < z.length := Nat.mod_lt _ hz
    simp [hm]
  · rw [List.getElem?_eq_none (by simp; omega), List.getElem?_eq_none (by rw [repL_len]; omega)]
    rfl

theorem T_buildSlice {T E sz by_ len z parts l'} [hs : SlT P T E sz by_] [hz : Zr P E z] (hzl : z.length = sz) (hlen : len * sz ≤ 16777216) (hb : Bld env (fun i => some (i * sz, sz)) (repL len z) parts l') :
    OpT P s n ⟨d, .buildSlice T len ⟨parts⟩, ty, pos, aft, gd⟩ env m H
      fun v m' H' => ∃ b, v = .slice (some ⟨b, 0, none⟩) len len ∧ m = m' ∧ H' = (b, box E l') :: H :=
  .run fun a w hf hok => by
    obtain ⟨e, hie, h1, h2⟩ := hs.parts
    obtain ⟨v, hv, hz'⟩ := run_zeroValue hz w
    have hfill := hb.fill hf
    refine ⟨_, w.alloc (box E l'), m, _, ?_, hok.alloc _, Mem.le.refl m, ⟨w.heap.size, rfl, rfl, rfl⟩⟩
    have hso : (sizeOf E).run P w = .ok sz w := by simp [sizeOf, typeInfo, hie, h1]
    have hpart : (Array.map (fun x : Nat × Operand => (x.fst, a.eval x.snd)) ⟨parts⟩).toList = parts.map fun p => (p.1, a.eval p.2) := by simp
    simp only [execOp, Instr.buildSlice, Sem.run_bind, run_underlying hs.u, Result.andThen_ok, hso]
    rw [if_neg (by omega)]
    by_cases h0 : len * sz = 0
    · have : repL len z = [] := List.eq_nil_of_length_eq_zero (by rw [repL_len, hzl, h0])
      rw [this] at hfill
      rw [if_pos h0]
      simp only [Sem.run_bind, Sem.run_pure, Result.andThen_ok, h0, hpart]
      rw [show Array.map (fun x => (#[] : Array Value)[x % (#[] : Array Value).size]!) (Array.range 0) = ⟨[]⟩ by simp, hfill]
      simp [newRow, box]
    · rw [if_neg h0]
      simp only [Sem.run_bind, Sem.run_pure, Result.andThen_ok, hv, hz', hpart]
      rw [show Array.map (fun x => (Array.mk z)[x % (Array.mk z).size]!) (Array.range (len * sz)) = ⟨repL len z⟩ by subst hzl; exact range_repL z len, hfill]
      simp [newRow, box]
end

section
variable {P : Program} {t : TypeId} {x y : Operand} {a b : List UInt8}
theorem str_inj {a b : List UInt8} : (⟨⟨a⟩⟩ : ByteArray) = ⟨⟨b⟩⟩ ↔ a = b := by
  constructor
  · intro h; cases h; rfl
  · rintro rfl; rfl
theorem BinR.leql : BinR P .eql t x y (.string ⟨⟨a⟩⟩) (.string ⟨⟨b⟩⟩) (.bool (decide (a = b))) := by
  have := @BinR.seql P t x y ⟨⟨a⟩⟩ ⟨⟨b⟩⟩
  rwa [decide_eq_decide.2 str_inj] at this
theorem BinR.lneq : BinR P .neq t x y (.string ⟨⟨a⟩⟩) (.string ⟨⟨b⟩⟩) (.bool (!decide (a = b))) := by
  have := @BinR.sneq P t x y ⟨⟨a⟩⟩ ⟨⟨b⟩⟩
  rwa [decide_eq_decide.2 str_inj] at this
theorem BinR.ladd (h : a.length + b.length ≤ 9223372036854775807) : BinR P .add t x y (.string ⟨⟨a⟩⟩) (.string ⟨⟨b⟩⟩) (.string ⟨⟨a ++ b⟩⟩) := by
  have := @BinR.sadd P t x y ⟨⟨a⟩⟩ ⟨⟨b⟩⟩ h
  have e : (⟨⟨a⟩⟩ : ByteArray) ++ ⟨⟨b⟩⟩ = ⟨⟨a ++ b⟩⟩ := by
    apply ByteArray.ext
    apply Array.ext'
    simp [ByteArray.data_append]
  rwa [e] at this
theorem toList_mk (l : List UInt8) : (⟨⟨l⟩⟩ : ByteArray).toList = l := ByteArray.toList_mk l
theorem BinR.llss : BinR P .lss t x y (.string ⟨⟨a⟩⟩) (.string ⟨⟨b⟩⟩) (.bool (Op.bytesLess a b)) := by
  have := @BinR.slss P t x y ⟨⟨a⟩⟩ ⟨⟨b⟩⟩
  rwa [toList_mk, toList_mk] at this
end
end Go.WL
