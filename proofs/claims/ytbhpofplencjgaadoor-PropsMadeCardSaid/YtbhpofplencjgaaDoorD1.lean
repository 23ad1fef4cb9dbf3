/- The plain facts of the walk PropsMade. Conditions: none. -/
import Derived.Test.YtbhpofplencjgaaDoorC9
import Derived.Test.YtbhpofplencjgaaDoorL12
namespace Go.Proofs.YtbhpofplencjgaaDoor
open Go Go.WL

def Kn (n0 : Nat) (cells : List Cel) : Prop := cells.length = n0 ∧ ∀ c ∈ cells, c.kind ≠ 0
theorem Kn.set {n0 : Nat} {cells : List Cel} (h : Kn n0 cells) (i : Nat) (c : Cel) (hk : ∀ d, cells[i]? = some d → c.kind = d.kind) : Kn n0 (cells.set i c) := by
  refine ⟨by rw [List.length_set]; exact h.1, fun d hd => ?_⟩
  rcases List.mem_or_eq_of_mem_set hd with hd | rfl
  · exact h.2 d hd
  · by_cases hi : i < cells.length
    · rw [hk _ (List.getElem?_eq_getElem hi)]
      exact h.2 _ (List.getElem_mem hi)
    · rw [List.set_eq_of_length_le (by omega)] at hd
      exact h.2 _ hd
theorem Kn.setV {n0 : Nat} {cells : List Cel} (h : Kn n0 cells) (v : Val) (name : S) (x : Val) : Kn n0 (setV cells v name x).1 := by
  unfold Proofs.YtbhpofplencjgaaDoor.setV
  split
  · rename_i hv
    have he := List.getElem?_eq_getElem (l := cells) (i := (v.n - 1).toNat) (by omega)
    generalize cells[(v.n - 1).toNat] = c at *
    dsimp only
    split
    · split
      · exact h.set _ _ fun d hd => by rw [he] at hd; cases hd; rfl
      · split
        · exact h
        · exact h.set _ _ fun d hd => by rw [he] at hd; cases hd; rfl
    · exact h
  · exact h
theorem Kn.putV {n0 : Nat} {cells : List Cel} (h : Kn n0 cells) (v k x : Val) : Kn n0 (putV cells v k x).1 := by
  unfold Proofs.YtbhpofplencjgaaDoor.putV
  split
  · exact h
  · split
    · rename_i c hc
      have hcc : cells[(v.n - 1).toNat]? = some c := by
        unfold arrOf at hc
        split at hc
        · split at hc
          · rename_i d hd
            split at hc
            · cases hc; exact hd
            · cases hc
          · cases hc
        · cases hc
      split
      · exact h
      · rename_i d hd
        refine h.set _ _ fun q hq => ?_
        rw [hcc] at hq
        cases hq
        unfold putA at hd
        split at hd
        · cases hd
        · split at hd <;> cases hd <;> rfl
    · exact h.setV _ _ _

def pmNames : List S := [[120], [121], sLength, sPush, [48], sThen, sNext, sCharAt, [122], sPop, sResolve]
end Go.Proofs.YtbhpofplencjgaaDoor
