/- More operations. Conditions: none. -/
import Derived.Test.YtbhpofplencjgaaDoorLA
import Derived.Laws.BitsLemmas
import Derived.Below
namespace Go.WL
open Go
section
variable {P : Program} {s : Strm} {n : Nat} {env : Env} {m : Mem} {H : Hp} {d : Option Nat} {ty : TypeId} {pos : String} {aft : Array Edge} {gd : Option (Nat × Bool)} {x : Operand}

theorem intKind_of {T : TypeId} {k : IntKind} (h : P.underlying T = some (.int k)) : P.intKind T = k := by simp [Program.intKind, h]

theorem T_conv {src dst k k' v v'} [h1 : InT P src k] [h2 : InT P dst k'] (hx : ev env x = some (.int k v)) (hn : k'.wrap v = v') :
    OpP P s n ⟨d, .convert src dst x, ty, pos, aft, gd⟩ env m H (.int k' v') :=
  fun a w hf _ => by
    have hk := intKind_of h2.u
    have := run_convert_int (P := P) w src dst k v (by rw [h1.u]; rfl) (by rw [hk]; exact h2.u)
    rw [hk, hn] at this
    simp [execOp, hf.ev hx, this]
theorem wrap_i64_id {v : Int} (h : -9223372036854775808 ≤ v ∧ v ≤ 9223372036854775807) : IntKind.i64.wrap v = v := by
  rw [IntKind.wrap_i64]; omega

instance : Rep Bool where
  sz := 1
  cells _ x cs := cs = [.bool x]
  len h := by subst h; rfl
  mono _ h := h
  one h := by subst h; rfl
end

/-- the whole memory of a world, as what is not written -/
def whole (w : World) : Mem := fun b => w.heap[b]?
theorem FnR.below {P : Program} {f : FuncId} {args : Array Value} {R : Value → Mem → Hp → Prop} {w : World} (h : FnR P f args (whole w) [] R) :
    Calls P f args w fun e w' => ∃ v m' H', e = .returned v ∧ Go.RowKit.Below w.heap.size w w' ∧ R v m' H' := by
  refine (h ⟨w.os, w.tape, w.output, whole w, w.heap.size⟩ w rfl ⟨rfl, rfl, rfl, Nat.le_refl _, Mem.le.refl _, fun b o h => h, by simp, by simp, by simp⟩).mono ?_
  rintro e w' ⟨m', H', ok, v, rfl, r⟩
  refine ⟨v, m', H', rfl, ⟨ok.os, ok.tape, ok.output, ok.size, fun k hk => ?_⟩, r⟩
  have h1 : w.heap[k]? = some w.heap[k] := by simp [hk]
  rw [h1]
  exact ok.imm k _ (ok.base k _ h1)

theorem RepL.bools {m : Mem} : ∀ l : List Bool, RepL m l (l.map Value.bool)
  | [] => .nil
  | x :: l => .cons (cs := [Value.bool x]) rfl (RepL.bools l)
theorem At.whole {w : World} {H : Hp} {b o : Nat} {v : Value} (h : w.cell? ⟨b, o, none⟩ = some v) : At (whole w) H b o v := by
  unfold World.cell? at h
  simp only at h
  split at h
  · rename_i c e f hb
    exact ⟨c, e, f, .inl hb, by simpa using h⟩
  · cases h
theorem SlV.bools {w : World} {a : Addr} {len cap : Nat} {B : Nat → Bool} (hl : len ≤ cap) (hc : ∀ i, i < cap → w.cell? (a.add i) = some (.bool (B i))) :
    SlV (whole w) (.slice (some a) len cap) ((List.range len).map B) := by
  refine ⟨some a, cap, by simp, by simpa using hl, _, RepL.bools _, ?_⟩
  by_cases h0 : len = 0
  · subst h0; exact .inl rfl
  · obtain ⟨b, off, spot⟩ := a
    have hs : spot = none := by simpa [Addr.add] using World.cell?_spot (hc 0 (by omega))
    subst hs
    refine .inr ⟨b, off, rfl, fun j v hj => ?_⟩
    rw [List.map_map, List.getElem?_map] at hj
    simp only [Option.map_eq_some_iff] at hj
    obtain ⟨i, hi, rfl⟩ := hj
    obtain ⟨hlt, rfl⟩ := List.getElem?_eq_some_iff.1 hi
    simp only [List.length_range] at hlt
    simp only [List.getElem_range]
    have := hc j (by omega)
    rw [Addr.add_lit] at this
    exact At.whole this
end Go.WL
