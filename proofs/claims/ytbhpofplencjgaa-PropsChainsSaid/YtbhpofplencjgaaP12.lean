/- The chain of prototypes: the plain law. Conditions: none. -/
import Derived.Test.YtbhpofplencjgaaP11
import Derived.Test.YtbhpofplencjgaaL7
namespace Go.Proofs.Ytbhpofplencjgaa
open Go Go.WL
set_option linter.unusedSimpArgs false
set_option linter.unusedVariables false

abbrev sOther : S := [111, 116, 104, 101, 114]
def numV (n : Int) : Val := ⟨3, n, []⟩

def chCel (has : List Bool) (name : S) (i : Nat) : Cel :=
  if has.getD i false = true then
    (if name = sOther then ⟨1, i, 0, [sOther], [numV i]⟩ else ⟨1, i, 0, [sOther, name], [numV (-1), numV i]⟩)
  else ⟨1, i, 0, [], []⟩
def chCells (has : List Bool) (name : S) (k : Nat) : List Cel := (List.range k).map (chCel has name)
def near (has : List Bool) : Nat → Int
  | 0 => -1
  | k + 1 => if has.getD k false = true then k else near has k

variable {has : List Bool} {name : S}
theorem chCells_len (k : Nat) : (chCells has name k).length = k := by simp [chCells]
theorem chCells_succ (k : Nat) : chCells has name (k + 1) = chCells has name k ++ [chCel has name k] := by simp [chCells, List.range_succ]
theorem chCells_get {k i : Nat} (h : i < (chCells has name k).length) : (chCells has name k)[i] = chCel has name i := by simp [chCells]
theorem near_lt (k : Nat) : -1 ≤ near has k ∧ near has k < k := by
  induction k with
  | zero => simp [near]
  | succ k ih =>
    unfold near
    split <;> omega

theorem chCel_kind (i : Nat) : (chCel has name i).kind = 1 := by unfold chCel; split; split <;> rfl; rfl
theorem chCel_a (i : Nat) : (chCel has name i).a = i := by unfold chCel; split; split <;> rfl; rfl
theorem chCel_b (i : Nat) : (chCel has name i).b = 0 := by unfold chCel; split; split <;> rfl; rfl
theorem chCel_len (i : Nat) : (chCel has name i).keys.length = (chCel has name i).vals.length := by unfold chCel; split; split <;> rfl; rfl
theorem chCel_small (i : Nat) : Small (chCel has name i) := by unfold chCel Small; split; split <;> simp; simp

theorem chCells_wp (k : Nat) : WP (chCells has name k) := by
  intro i hi hk
  rw [chCells_get]
  refine ⟨by rw [chCel_a]; omega, by rw [chCel_a]; omega, chCel_len i, fun j hj e => ?_⟩
  rw [chCells_get, chCel_kind]

theorem find_yes (i : Nat) (h : has.getD i false = true) : ∃ j, find (chCel has name i).keys name = some j ∧ (chCel has name i).vals.getD j vUndef = numV i := by
  unfold chCel
  rw [if_pos h]
  split
  · rename_i e; subst e
    exact ⟨0, by simp [find, List.findIdx?_cons], rfl⟩
  · rename_i e
    exact ⟨1, by simp [find, List.findIdx?_cons, Ne.symm e], rfl⟩
theorem find_not (i : Nat) (h : ¬ has.getD i false = true) : find (chCel has name i).keys name = none := by
  unfold chCel
  rw [if_neg h]
  rfl

/-- what a chain has by the name -/
def nearV (has : List Bool) (k : Nat) : Val := if 0 ≤ near has k then numV (near has k) else vUndef
theorem nearV_yes {k : Nat} (h : has.getD k false = true) : nearV has (k + 1) = numV k := by
  have e : near has (k + 1) = k := by unfold near; rw [if_pos h]
  unfold nearV
  rw [e, if_pos (by omega)]
theorem nearV_no {k : Nat} (h : ¬ has.getD k false = true) : nearV has (k + 1) = nearV has k := by
  have e : near has (k + 1) = near has k := by rw [near, if_neg h]
  unfold nearV
  rw [e]
theorem nearV_zero : nearV has 0 = vUndef := by simp [nearV, near]
theorem chain_law {cells : List Cel} : ∀ (i : Nat), (∀ j (h : j < i), ∃ hj : j < cells.length, cells[j] = chCel has name j) → ∀ f, i ≤ f → chainF cells name f (chCel has name i) = nearV has (i + 1) := by
  intro i
  induction i with
  | zero =>
    intro hc f hf
    by_cases h : has.getD 0 false = true
    · obtain ⟨j, h1, h2⟩ := find_yes (name := name) 0 h
      rw [chainF_found h1, h2, nearV_yes h]
    · rw [chainF_end (find_not 0 h) (by rw [chCel_a]; rfl)]
      rw [nearV_no h, nearV_zero]
  | succ i ih =>
    intro hc f hf
    by_cases h : has.getD (i + 1) false = true
    · obtain ⟨j, h1, h2⟩ := find_yes (name := name) (i + 1) h
      rw [chainF_found h1, h2, nearV_yes h]
    · obtain ⟨f, rfl⟩ : ∃ g, f = g + 1 := ⟨f - 1, by omega⟩
      obtain ⟨hj, e⟩ := hc i (by omega)
      have ha : (((chCel has name (i + 1)).a - 1).toNat) = i := by rw [chCel_a]; omega
      rw [chainF_next (find_not (i + 1) h) (by rw [chCel_a]; omega) (by rw [ha]; exact hj)]
      simp only [ha, e]
      rw [ih (fun j h => hc j (by omega)) f (by omega), nearV_no h]

def refV (k : Int) : Val := ⟨5, k, []⟩
theorem getV_chain {cells : List Cel} {k : Nat} (hk : 1 ≤ k) (hl : k ≤ cells.length) (hc : ∀ j (h : j < k), ∃ hj : j < cells.length, cells[j] = chCel has name j) :
    getV cells (refV k) name = (nearV has k, 0) := by
  obtain ⟨i, rfl⟩ : ∃ i, k = i + 1 := ⟨k - 1, by omega⟩
  obtain ⟨hj, e⟩ := hc i (by omega)
  have hr : 1 ≤ (refV ((i + 1 : Nat) : Int)).n ∧ (refV ((i + 1 : Nat) : Int)).n ≤ cells.length := by simp only [refV]; omega
  have hi : ((refV ((i + 1 : Nat) : Int)).n - 1).toNat = i := by simp only [refV]; omega
  unfold getV
  rw [if_neg (by simp [refV]), if_neg (by simp [refV]), if_neg (by simp [refV]), dif_pos hr]
  simp only [hi, e, hasV, chCel_kind, if_true, chCel_a, Int.toNat_natCast]
  rw [chain_law i (fun j h => hc j (by omega)) i (Nat.le_refl _)]

theorem getV_cells {k : Nat} (hk : 1 ≤ k) : getV (chCells has name k) (refV k) name = (nearV has k, 0) :=
  getV_chain hk (by rw [chCells_len]; omega) fun j h => ⟨by rw [chCells_len]; exact h, chCells_get _⟩

/-- the last cell once it is set -/
def newCel (has : List Bool) (name : S) (k : Nat) (x : Val) : Cel :=
  match find (chCel has name k).keys name with
  | some i => { chCel has name k with vals := (chCel has name k).vals.set i x }
  | none => { chCel has name k with keys := (chCel has name k).keys ++ [name], vals := (chCel has name k).vals ++ [x] }

theorem setV_cells {k : Nat} {x : Val} : setV (chCells has name (k + 1)) (refV ((k + 1 : Nat) : Int)) name x = ((chCells has name (k + 1)).set k (newCel has name k x), 0) := by
  have hr : (refV ((k + 1 : Nat) : Int)).k = 5 ∧ 1 ≤ (refV ((k + 1 : Nat) : Int)).n ∧ (refV ((k + 1 : Nat) : Int)).n ≤ (chCells has name (k + 1)).length := by
    rw [chCells_len]; refine ⟨rfl, ?_, ?_⟩ <;> simp only [refV] <;> omega
  have hi : ((refV ((k + 1 : Nat) : Int)).n - 1).toNat = k := by simp only [refV]; omega
  have hlen : ¬ 1024 ≤ (chCel has name k).keys.length := by unfold chCel; split; split <;> simp; simp
  unfold setV
  rw [dif_pos hr]
  simp only [hi, chCells_get, if_pos (chCel_kind k)]
  unfold newCel
  cases h : find (chCel has name k).keys name with
  | some i => rfl
  | none => simp only [if_neg hlen]

theorem newCel_kind {k : Nat} {x : Val} : (newCel has name k x).kind = 1 := by unfold newCel; split <;> exact chCel_kind k
theorem newCel_len {k : Nat} {x : Val} : (newCel has name k x).keys.length = (newCel has name k x).vals.length := by
  have := chCel_len (has := has) (name := name) k
  unfold newCel; split <;> simp [this]
theorem newCel_find {k : Nat} {x : Val} : ∃ i, find (newCel has name k x).keys name = some i ∧ (newCel has name k x).vals.getD i vUndef = x := by
  have hl := chCel_len (has := has) (name := name) k
  unfold newCel
  cases h : find (chCel has name k).keys name with
  | some i =>
    refine ⟨i, h, ?_⟩
    have := find_lt h
    simp only [List.getD_eq_getElem?_getD]
    rw [List.getElem?_set_self (by omega)]
    rfl
  | none =>
    refine ⟨(chCel has name k).keys.length, ?_, ?_⟩
    · refine find_some (by simp) (by simp) (fun j hj => ?_)
      simp only
      rw [List.getElem_append_left hj]
      intro e
      unfold find at h
      rw [List.findIdx?_eq_none_iff] at h
      have := h _ (List.getElem_mem hj)
      simp [e] at this
    · simp only [hl, List.getD_eq_getElem?_getD]
      simp
theorem getV_set {k : Nat} {x : Val} : getV ((chCells has name (k + 1)).set k (newCel has name k x)) (refV ((k + 1 : Nat) : Int)) name = (x, 0) := by
  have hr : 1 ≤ (refV ((k + 1 : Nat) : Int)).n ∧ (refV ((k + 1 : Nat) : Int)).n ≤ ((chCells has name (k + 1)).set k (newCel has name k x)).length := by
    rw [List.length_set, chCells_len]; simp only [refV]; omega
  have hi : ((refV ((k + 1 : Nat) : Int)).n - 1).toNat = k := by simp only [refV]; omega
  obtain ⟨i, h1, h2⟩ := newCel_find (has := has) (name := name) (k := k) (x := x)
  unfold getV
  rw [if_neg (by simp [refV]), if_neg (by simp [refV]), if_neg (by simp [refV]), dif_pos hr]
  simp only [hi, List.getElem_set_self, hasV, newCel_kind, if_true]
  rw [chainF_found h1, h2]
theorem getV_before {k : Nat} {c : Cel} : getV ((chCells has name (k + 2)).set (k + 1) c) (refV ((k + 1 : Nat) : Int)) name = (nearV has (k + 1), 0) :=
  getV_chain (by omega) (by rw [List.length_set, chCells_len]; omega) fun j h =>
    ⟨by rw [List.length_set, chCells_len]; omega, by rw [List.getElem_set_ne (by omega), chCells_get]⟩
theorem nearV_ne {k : Nat} (hk : k ≤ 12) : (nearV has k).n ≠ 99 := by
  have := near_lt (has := has) k
  unfold nearV
  split <;> simp [numV, vUndef]
  omega
end Go.Proofs.Ytbhpofplencjgaa
