/- Bytes: slices of them, strings of them; quotients of whole numbers. Conditions: none. -/
import Derived.Test.YtbhpofplencjgaaDoorL9
import Derived.Laws.IdiomStrings
namespace Go.WL
open Go

instance : Rep UInt8 where
  sz := 1
  cells _ x cs := cs = [.int .u8 (x.toNat : Int)]
  len h := by subst h; rfl
  mono _ h := h
  one h := by subst h; rfl

theorem u8_ofNat {k : Int} (h : 0 ≤ k ∧ k < 256) : ((UInt8.ofNat k.toNat).toNat : Int) = k := by
  rw [UInt8.toNat_ofNat']; omega

theorem wrap_u8_id {v : Int} (h : 0 ≤ v ∧ v ≤ 255) : IntKind.u8.wrap v = v := by
  rw [IntKind.wrap_u8]; omega

theorem RdV_box1 {m : Mem} {H : Hp} {b : Nat} {E : TypeId} {k : Int} (hm : (b, box E [.int .u8 k]) ∈ H) (h : 0 ≤ k ∧ k < 256) : RdV m H (.slice (some ⟨b, 0, none⟩) 1 1) [UInt8.ofNat k.toNat] := by
  refine ⟨_, _, rfl, Nat.le_refl _, fun i hi => ?_⟩
  obtain rfl : i = 0 := by simpa using hi
  refine ⟨b, 0, [.int .u8 k], rfl, ?_, Ats.own hm⟩
  show [Value.int .u8 k] = [Value.int .u8 ((UInt8.ofNat k.toNat).toNat : Int)]
  rw [u8_ofNat h]

section
variable {P : Program} {s : Strm} {n : Nat} {env : Env} {m : Mem} {H : Hp} {d : Option Nat} {ty : TypeId} {pos : String} {aft : Array Edge} {gd : Option (Nat × Bool)} {x y : Operand}

/-- string(bs) -/
theorem T_bytesStr {src dst E sz by_ a cap} {l : List UInt8} [hs : SlT P src E sz by_] [hd : StT P dst] [he : InT P E .u8] (hx : ev env x = some (.slice (some a) l.length cap)) (hr : RdV m H (.slice (some a) l.length cap) l) :
    OpP P s n ⟨d, .convert src dst x, ty, pos, aft, gd⟩ env m H (str l) :=
  fun act w hf hok => by
    obtain ⟨a', cap', e, hc, hrd⟩ := hr
    cases e
    have hb := run_convert_bytes_back (P := P) w src dst E a cap l hs.u he.u hd.u (fun j hj => by
      obtain ⟨b, o, cs, e1, h1, h2⟩ := hrd j hj
      cases e1
      subst h1
      have := (h2 0 _ rfl).cell hok
      rw [Addr.add_lit]
      simpa [Rep.sz] using this)
    simp [execOp, hf.ev hx, hb]

theorem T_bytesStr1 {src dst E sz by_ b E'} {k : Int} [hs : SlT P src E sz by_] [hd : StT P dst] [he : InT P E .u8] (hx : ev env x = some (.slice (some ⟨b, 0, none⟩) 1 1)) (hm : (b, box E' [.int .u8 k]) ∈ H) (h : 0 ≤ k ∧ k < 256) :
    OpP P s n ⟨d, .convert src dst x, ty, pos, aft, gd⟩ env m H (str [UInt8.ofNat k.toNat]) := T_bytesStr hx (RdV_box1 hm h)

theorem T_bytesStr0 {src dst E sz by_ cap} [hs : SlT P src E sz by_] [hd : StT P dst] [he : InT P E .u8] (hx : ev env x = some (.slice none 0 cap)) :
    OpP P s n ⟨d, .convert src dst x, ty, pos, aft, gd⟩ env m H (str []) :=
  fun act w hf hok => by
    have hb := run_convert_bytes_string (P := P) w src dst E none 0 cap hs.u he.u hd.u
    simp only [execOp, hf.ev hx]
    rw [Sem.run_bind, hb]
    simp [Conv.bytesToString]
    try rfl

theorem BinR.quo8 {t : TypeId} {a b : Int} (ha : 0 ≤ a ∧ a ≤ 255) (h : 0 < b) : BinR P .quo t x y (.int .u8 a) (.int .u8 b) (.int .u8 (a / b)) := by
  have h1 : a.tdiv b = a / b := Int.tdiv_eq_ediv_of_nonneg ha.1
  have h2 : 0 ≤ a / b := Int.ediv_nonneg ha.1 (by omega)
  have h3 : a / b ≤ a := Int.ediv_le_self b ha.1
  have := @BinR.quow P t x y a b .u8 (by omega); rwa [h1, wrap_u8_id (by omega)] at this
theorem BinR.remz {t : TypeId} {a b : Int} {k : IntKind} (h : 0 < b) : BinR P .rem t x y (.int k a) (.int k b) (.int k (a.tmod b)) := BinR.remw (by omega)
theorem BinR.quoz {t : TypeId} {a b : Int} (ha : -9223372036854775808 < a ∧ a ≤ 9223372036854775807) (h : 0 < b) : BinR P .quo t x y (.int .i64 a) (.int .i64 b) (.int .i64 (a.tdiv b)) := by
  have h2 : (a.tdiv b).natAbs ≤ a.natAbs := by rw [Int.natAbs_tdiv]; exact Nat.div_le_self _ _
  have := @BinR.quow P t x y a b .i64 (by omega); rwa [wrap_i64 (by omega) (by omega)] at this
end
end Go.WL
namespace Go.WL
open Go
section
variable {P : Program} {s : Strm} {n : Nat} {Q : Exit → Env → Mem → Hp → Prop} {env : Env} {m : Mem} {H : Hp} {ops : Array Oper} {St : Mem → Hp → Prop} {b fuel : Nat} {listed : Array Bool}
theorem AWop_same {i : Nat} {o : Oper} {d v} (ho : ops[i]? = some o) (hg : GOk ops env o.guard) (hdd : o.dst = some d) (hd : Nat.blt d n = true) (hop : OpP P s n o env m H v)
    (h : AW P s n ops Q St b fuel (listed.setIfInBounds i true) ((d, v) :: env) m H) : AWop P s n ops Q St b fuel listed env m H i :=
  AWop_call ho hg hdd hd hop.T fun v' m' H' _ ⟨e1, e2, e3⟩ => by
    subst e1; subst e2; subst e3
    exact h
end
end Go.WL
