/- Roads that meet again. Conditions: none. -/
import Derived.Test.YtbhpofplencjgaaDoorL10
namespace Go.WL
open Go
section
variable {P : Program} {s : Strm} {n : Nat} {Q : Exit → Env → Mem → Hp → Prop} {env : Env} {m : Mem} {H : Hp}
/-- behind x only env1 is known; memory is as it was -/
theorem CW_merge {x y : Code} (env1 : Env) (h1 : CW P s n x (fun e env' m' H' => e = .normal ∧ Env.sub env1 env' ∧ m' = m ∧ H' = H) env m H) (h2 : CW P s n y Q env1 m H) :
    CW P s n x (thenQ (CW P s n y Q) Q) env m H :=
  h1.mono fun e env' m' H' ⟨e1, e2, e3, e4⟩ => by
    subst e1; subst e3; subst e4
    exact CW.keep env1 e2 h2
/-- p or q -/
theorem CW_or {y c2 : Code} {t : Nat} {p q : Prop} [Decidable p] [Decidable q] (env1 : Env) (ht : look env t = some (.bool (decide p))) (hs : Env.sub env1 env)
    (h2 : ¬ p → CW P s n c2 (fun e env' m' H' => e = .normal ∧ look env' t = some (.bool (decide q)) ∧ Env.sub env1 env' ∧ m' = m ∧ H' = H) env m H)
    (h3 : CW P s n y Q ((t, .bool (decide (p ∨ q))) :: env1) m H) : CW P s n (.cond (.tmp t) .skip c2) (thenQ (CW P s n y Q) Q) env m H := by
  refine CW_merge ((t, .bool (decide (p ∨ q))) :: env1) ?_ h3
  by_cases hp : p
  · refine CW_cond (t := true) (by simp only [ev, ht, hp]; rfl) (fun _ => ?_) (fun h => nomatch h)
    exact CW_skip ⟨rfl, Env.sub_cons (by rw [ht]; simp [hp]) hs, rfl, rfl⟩
  · refine CW_cond (t := false) (by simp only [ev, ht, hp]; rfl) (fun h => nomatch h) (fun _ => ?_)
    refine (h2 hp).mono ?_
    rintro e env' m' H' ⟨rfl, h1, hsub, rfl, rfl⟩
    exact ⟨rfl, Env.sub_cons (by rw [h1]; simp [hp]) hsub, rfl, rfl⟩
end
end Go.WL
namespace Go.WL
open Go
section
variable {P : Program} {s : Strm} {n : Nat} {Q : Exit → Env → Mem → Hp → Prop} {env : Env} {m : Mem} {H : Hp} {ops : Array Oper} {St : Mem → Hp → Prop} {b fuel : Nat} {listed : Array Bool}
theorem AW_part (d : Nat) {t : Bool} (hb : look env d = some (.bool t)) (h1 : t = true → AW P s n ops Q St b fuel listed ((d, .bool true) :: env) m H) (h2 : t = false → AW P s n ops Q St b fuel listed ((d, .bool false) :: env) m H) :
    AW P s n ops Q St b fuel listed env m H := fun a w hf hok => by
  cases t
  · exact h2 rfl a w (hf.again hb) hok
  · exact h1 rfl a w (hf.again hb) hok
theorem AW_partd (d : Nat) {p : Prop} [Decidable p] (hb : look env d = some (.bool (decide p))) (h1 : p → AW P s n ops Q St b fuel listed ((d, .bool true) :: env) m H) (h2 : ¬ p → AW P s n ops Q St b fuel listed ((d, .bool false) :: env) m H) :
    AW P s n ops Q St b fuel listed env m H := AW_part d hb (fun e => h1 (of_decide_eq_true e)) (fun e => h2 (of_decide_eq_false e))
theorem AW_partn (d : Nat) {p : Prop} [Decidable p] (hb : look env d = some (.bool (!decide p))) (h1 : ¬ p → AW P s n ops Q St b fuel listed ((d, .bool true) :: env) m H) (h2 : p → AW P s n ops Q St b fuel listed ((d, .bool false) :: env) m H) :
    AW P s n ops Q St b fuel listed env m H := AW_part d hb (fun e => h1 (by simpa using e)) (fun e => h2 (by simpa using e))
end
end Go.WL
namespace Go.WL
open Go
/-- a contract of the library that reads what is there -/
theorem FnR.ofBelowI {P f args m H} {R : Value → Prop} (h : ∀ w : World, (∀ b o, m b = some o → w.heap[b]? = some o) → Calls P f args w fun e w' => ∃ v, e = .returned v ∧ Go.RowKit.Below w.heap.size w w' ∧ R v) :
    FnR P f args m H fun v m' H' => R v ∧ m = m' ∧ H = H' :=
  fun _ w _ hok => (h w hok.imm).mono fun _ w' ⟨v, e, hb, r⟩ => ⟨m, H, hok.below hb, v, e, r, rfl, rfl⟩
end Go.WL
namespace Go.WL
open Go
section
variable {P : Program} {s : Strm} {n : Nat} {Q : Exit → Env → Mem → Hp → Prop} {env : Env} {m : Mem} {H : Hp} {ops : Array Oper} {rest : List Oper} {St : Mem → Hp → Prop} {b fuel : Nat} {listed : Array Bool}
/-- an operation under a guard that was itself left out -/
theorem RW_nou {d : Nat} {op : Op} {ty : TypeId} {pos : String} {aft : Array Edge} {j : Nat} {want : Bool} {oj : Oper} {dj : Nat} (hd : Nat.blt d n = true) (hj : ops[j]? = some oj) (hdj : oj.dst = some dj) (hb : look env dj = some undef)
    (h : RW P s n ops Q rest ((d, undef) :: env) m H) : RW P s n ops Q (⟨some d, op, ty, pos, aft, some (j, want)⟩ :: rest) env m H := by
  intro a w hf hok
  refine wpList_step fun K' hK => ?_
  have hy : yielded ops a.tmps j = none := by
    have := hf.get dj _ hb
    simp [yielded, hj, hdj, this, undef]
  have hw : Region.wanted ⟨some d, op, ty, pos, aft, some (j, want)⟩ (yielded ops a.tmps) = false := by
    simp only [Region.wanted, hy]
    rfl
  rw [hw]
  simp only [Bool.false_eq_true, if_false]
  exact hK _ _ (h _ w (hf.put (blt_lt hd) undef) hok)
theorem AW_nou {i : Nat} {o : Oper} {d : Nat} (path : List Nat) {j : Nat} {want : Bool} {oj : Oper} {dj : Nat} (hi : ops[i]? = some o) (hd : o.dst = some d) (hdn : Nat.blt d n = true) (hg : o.guard = some (j, want)) (hj : ops[j]? = some oj) (hdj : oj.dst = some dj) (hb : look env dj = some undef)
    (hchk : chkTake ops listed b path i = true) (h : AW P s n ops Q St b fuel (listed.setIfInBounds i true) ((d, undef) :: env) m H) : AW P s n ops Q St b (fuel + 1) listed env m H :=
  AW_takeW path hi hd hdn hchk (fun a hf => by
    have hw : Region.wanted o (yielded ops a.tmps) = false := by
      have := hf.get _ _ hb
      simp [Region.wanted, hg, yielded, hj, hdj, this, undef]
    exact ⟨fun h => absurd (hw.symm.trans h) (by decide), fun _ => rfl⟩) h
end
end Go.WL
