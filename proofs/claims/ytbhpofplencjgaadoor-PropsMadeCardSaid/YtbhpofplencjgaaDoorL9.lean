/- append of a list to an empty one; an index whose element is known. Conditions: none. -/
import Derived.Test.YtbhpofplencjgaaDoorL8
namespace Go.WL
open Go
section
variable {P : Program} {s : Strm} {n : Nat} {env : Env} {m : Mem} {F : Hp} {d : Option Nat} {ty : TypeId} {pos : String} {aft : Array Edge} {gd : Option (Nat × Bool)} {x y : Operand}

theorem T_appendC {α : Type} [Rep α] {T E sz by_ b a0 cap z} {l : List α} [hs' : SlT P T E sz by_] [hz : Zr P E z] (hsz : sz = Rep.sz α) (hzl : z.length = sz)
    (hx : ev env x = some (.slice (some ⟨b, 0, none⟩) 0 0)) (hy : ev env y = some (.slice a0 l.length cap)) (hsl : Sl m a0 l) (hb : l.length * by_ ≤ 140737488355328) (hn : l.length ≤ 9223372036854775807) :
    OpT P s n ⟨d, .call { callee := .builtin .append, args := #[x, y], argTypes := #[T, T] }, ty, pos, aft, gd⟩ env m ((b, box E []) :: F)
      fun v m' H' => ∃ a' cap' hs', v = .slice a' l.length cap' ∧ OwnT E m a' l.length cap' l hs' ∧ m = m' ∧ H' = hs' ++ F := by
  subst hsz
  obtain ⟨xs, h1, h2⟩ := hsl
  by_cases e : l = []
  · subst e
    refine (T_append0 hx hy (Nat.le_refl _) (by rintro _ h; cases h; rfl)).T.mono ?_
    rintro v m' H' hle ⟨rfl, rfl, rfl⟩
    exact ⟨_, _, [(b, box E [])], rfl, OwnT.box rfl .nil, rfl, rfl⟩
  · obtain ⟨b2, o2, rfl, hats⟩ := h2.resolve_left e
    refine (T_append (xs := []) (hs := [(b, box E [])]) (F := F) hzl hx hy (OwnS.box (cur := []) (by simp)) (.refl _) hats.h h1.len h1.one (by simpa using hb) (by simpa using hn)).mono ?_
    rintro v m' H' hle ⟨a', cap', hs, rfl, hown, rfl, rfl⟩
    rw [Nat.zero_add] at hown ⊢
    exact ⟨a', cap', hs, rfl, ⟨rfl, xs, h1, by simpa using hown⟩, rfl, rfl⟩
end
end Go.WL
