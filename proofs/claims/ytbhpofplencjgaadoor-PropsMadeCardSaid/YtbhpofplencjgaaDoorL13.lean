/- Bytes that come in; tables that are laid. Conditions: none. -/
import Derived.Test.YtbhpofplencjgaaDoorL12
import Derived.Lib.LaidTab
import Derived.OpenShut
namespace Go.WL
open Go

theorem RepL.u8s {m : Mem} : ∀ zs : List Int, (∀ n ∈ zs, 0 ≤ n ∧ n ≤ 255) → RepL m (zs.map fun n => UInt8.ofNat n.toNat) (zs.map fun n => Value.int .u8 n)
  | [], _ => .nil
  | x :: l, h => .cons (cs := [Value.int .u8 x]) (by
      show [Value.int .u8 x] = [Value.int .u8 ((UInt8.ofNat x.toNat).toNat : Int)]
      have := h x (by simp)
      rw [u8_ofNat (by omega)]) (RepL.u8s l fun n hn => h n (by simp [hn]))
theorem SlV.bytes {w : World} {a : Addr} {len cap : Nat} {zs : List Int} (hl : len ≤ cap) (hz : zs.length = cap) (hc : ∀ i, i < zs.length → w.cell? (a.add i) = some (.int .u8 (zs.getD i 0))) (hw : ∀ n ∈ zs, (Lit.int .u8 n).wf = true) :
    ∃ l : List UInt8, SlV (whole w) (.slice (some a) len cap) l := by
  have hb : ∀ n ∈ zs.take len, 0 ≤ n ∧ n ≤ 255 := fun n hn => by
    obtain ⟨j, hj, rfl⟩ := List.getElem_of_mem (List.mem_of_mem_take hn)
    have := Go.range_u8 hw j
    rw [List.getElem?_eq_getElem hj] at this
    exact this
  refine ⟨(zs.take len).map fun n => UInt8.ofNat n.toNat, some a, cap, ?_, ?_, _, RepL.u8s _ hb, ?_⟩
  · rw [List.length_map, List.length_take, Nat.min_eq_left (by omega)]
  · rw [List.length_map, List.length_take]; omega
  · by_cases h0 : len = 0
    · subst h0; exact .inl (by simp)
    · obtain ⟨b, off, spot⟩ := a
      have hs : spot = none := by simpa [Addr.add] using World.cell?_spot (hc 0 (by omega))
      subst hs
      refine .inr ⟨b, off, rfl, fun j v hj => ?_⟩
      rw [List.getElem?_map, List.getElem?_take] at hj
      split at hj
      · rename_i hjl
        have hjz : j < zs.length := by omega
        rw [List.getElem?_eq_getElem hjz] at hj
        simp only [Option.map_some, Option.some.injEq] at hj
        subst hj
        have := hc j hjz
        rw [Addr.add_lit, List.getD_eq_getElem?_getD, List.getElem?_eq_getElem hjz] at this
        exact At.whole this
      · simp at hj

theorem laidMet_tail {P : Program} {W : World} {x : String × DataW Unit} {r : List (String × DataW Unit)} (h : laidMet P (x :: r) W) : laidMet P r W := by
  obtain ⟨ps, ⟨g, t, cs, fuel, p, q, h1, h2, h3, h4, h5, rfl⟩, hn, hc⟩ := h
  exact ⟨q, h5, (List.nodup_append.1 hn).2.1, fun b off hb => hc b off (by simp [hb])⟩
end Go.WL
