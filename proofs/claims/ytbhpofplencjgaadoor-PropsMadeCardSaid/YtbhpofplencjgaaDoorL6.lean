/- A region that draws its order: what only reads is taken ahead; what acts goes in each order that its edges allow. Conditions: none. -/
import Derived.Test.YtbhpofplencjgaaDoorL5
import Derived.Orders
namespace Go.WL
open Go

section
variable {P : Program} {ops : Array Oper}

/-- in whatever order, from what is listed on; as long as operation b is not done, J holds of the world -/
def wpAnyB (P : Program) (ops : Array Oper) (Qn : Act → World → Prop) (J : World → Prop) (b : Nat) : Nat → Array Bool → Act → World → Prop
  | 0, listed, a, w => (listed.getD b false = false → J w) ∧ Region.ready .any ops listed = [] ∧ Qn a w
  | fuel + 1, listed, a, w => (listed.getD b false = false → J w) ∧ (Region.ready .any ops listed = [] → Qn a w) ∧
    ∀ i ∈ Region.ready .any ops listed, ∀ o, ops[i]? = some o →
      (Region.wanted o (yielded ops a.tmps) = true → upV P (fun v w' => wpAnyB P ops Qn J b fuel (listed.setIfInBounds i true) (a.put o.dst v) w') ((execOp a.eval o).run P w)) ∧
      (Region.wanted o (yielded ops a.tmps) = false → wpAnyB P ops Qn J b fuel (listed.setIfInBounds i true) (a.put o.dst undef) w)

theorem wpAnyB.wpAny {Q : Exit → Act → World → Prop} {J b} : ∀ (fuel : Nat) (listed : Array Bool) (a : Act) (w : World), wpAnyB P ops (Q .normal) J b fuel listed a w → Go.wpAny P .any ops Q fuel listed a w := by
  intro fuel
  induction fuel with
  | zero => intro listed a w h; exact h.2
  | succ fuel ih =>
    intro listed a w h
    refine ⟨h.2.1, fun i hi => ?_⟩
    unfold wpOp
    cases ho : ops[i]? with
    | none =>
      obtain ⟨_, o, ho', _⟩ := mem_ready.1 hi
      rw [ho] at ho'; cases ho'
    | some o =>
      have h2 := h.2.2 i hi o ho
      cases hw : Region.wanted o (yielded ops a.tmps) with
      | false => simpa [hw] using ih _ _ _ (h2.2 hw)
      | true => simp only [hw, if_true]; exact .inl ((h2.1 hw).upon (Q := Q) (o := o) (a := a) fun v w' hv => ih _ _ _ hv)

/-- may operation i be taken ahead; path: operations that wait for it, the barrier b among them -/
def chkTake (ops : Array Oper) (listed : Array Bool) (b : Nat) (path : List Nat) (i : Nat) : Bool :=
  Region.noSelect ops && Region.free .any ops listed i && (Region.ready .any ops listed).contains i && !path.contains i &&
    (path.contains b || (ops[b]?).isNone && !(listed.getD b false) && i != b) &&
    path.all fun p => !(listed.getD p false) && match ops[p]? with
     | none => true
     | some op => op.after.any fun e => Region.binds .any e && (e.on == i || path.contains e.on)

theorem wpAnyB_take {Qn : Act → World → Prop} {J : World → Prop} {b i : Nat} {oi : Oper} {v : Value} {path : List Nat} (hi : ops[i]? = some oi) (hsel : Region.noSelect ops = true) (hib : i ≠ b) (hip : i ∉ path) (hbp : b ∈ path ∨ ops[b]? = none)
    (hbe : ∀ p ∈ path, ∀ op, ops[p]? = some op → ∃ e ∈ op.after, Region.binds .any e = true ∧ (e.on = i ∨ e.on ∈ path)) :
    ∀ (fuel : Nat) (listed : Array Bool) (a : Act) (w : World),
      (∀ j oj, ops[j]? = some oj → j ≠ i → listed.getD j true = false → (∀ e ∈ oj.after, Region.binds .any e = true → e.on ≠ i) → oi.apart ops oj = true) →
      i ∈ Region.ready .any ops listed → listed.getD b false = false → (∀ p ∈ path, listed.getD p false = false) →
      (Region.wanted oi (yielded ops a.tmps) = true → ∀ w, J w → (execOp a.eval oi).run P w = .ok (.value v) w) ∧ (Region.wanted oi (yielded ops a.tmps) = false → v = undef) →
      wpAnyB P ops Qn J b fuel (listed.setIfInBounds i true) (a.put oi.dst v) w → wpAnyB P ops Qn J b (fuel + 1) listed a w := by
  have hs := Region.noSelect_spec hsel
  have hgb : ∀ (listed : Array Bool), (listed.setIfInBounds i true).getD b false = listed.getD b false := fun listed => getD_set_ne false hib
  intro fuel
  induction fuel with
  | zero =>
    intro listed a w _ hr hb _ hy H
    have hJ : J w := H.1 (by rw [hgb]; exact hb)
    refine ⟨fun _ => hJ, fun h => (by rw [h] at hr; cases hr), fun j hj o ho => ?_⟩
    by_cases hji : j = i
    · subst hji
      rw [hi] at ho; cases ho
      exact ⟨fun h => by rw [hy.1 h w hJ]; exact H, fun h => by rw [← hy.2 h]; exact H⟩
    · have := ready_mono hj hji
      rw [H.2.1] at this
      cases this
  | succ fuel ih =>
    intro listed a w hfree hr hb hpu hy H
    have hJ : J w := H.1 (by rw [hgb]; exact hb)
    refine ⟨fun _ => hJ, fun h => (by rw [h] at hr; cases hr), fun j hj o ho => ?_⟩
    by_cases hji : j = i
    · subst hji
      rw [hi] at ho; cases ho
      exact ⟨fun h => by rw [hy.1 h w hJ]; exact H, fun h => by rw [← hy.2 h]; exact H⟩
    · obtain ⟨hjun, oj, hoj, hall⟩ := mem_ready.1 hj
      rw [ho] at hoj
      cases hoj
      have hiun := (mem_ready.1 hr).1
      have hnot : ∀ e ∈ o.after, Region.binds .any e = true → e.on ≠ i := fun e he hbd heq => by
        have h1 := hall e he hbd
        rw [heq] at h1
        rcases Nat.lt_or_ge i listed.size with h' | h'
        · simp [h'] at hiun h1; rw [hiun] at h1; cases h1
        · simp [Array.getElem?_eq_none h'] at h1
      have hjp : j ∉ path := fun hjp => by
        obtain ⟨e, he, hbd, heq | hep⟩ := hbe j hjp o ho
        · exact hnot e he hbd heq
        · have h1 := hall e he hbd
          rw [hpu _ hep] at h1
          cases h1
      have hjb : j ≠ b := by
        rintro rfl
        rcases hbp with h | h
        · exact hjp h
        · rw [ho] at h; cases h
      have hap := hfree j o ho hji hjun hnot
      obtain ⟨p1, p2, p3⟩ := Oper.apart_spec hap
      have h1 := H.2.2 j (ready_mono hj hji) o ho
      rw [wanted_put o a oi.dst v p1, execOp_put o (fun cs b => hs j o cs b ho) a oi.dst v p1] at h1
      have hfree' : ∀ k ok, ops[k]? = some ok → k ≠ i → (listed.setIfInBounds j true).getD k true = false →
          (∀ e ∈ ok.after, Region.binds .any e = true → e.on ≠ i) → oi.apart ops ok = true := fun k ok hk hki hun hno => by
        refine hfree k ok hk hki ?_ hno
        by_cases hjk : j = k
        · subst hjk; exact hjun
        · rw [getD_set_ne true hjk] at hun; exact hun
      have step : ∀ u w', wpAnyB P ops Qn J b fuel ((listed.setIfInBounds i true).setIfInBounds j true) ((a.put oi.dst v).put o.dst u) w' → wpAnyB P ops Qn J b (fuel + 1) (listed.setIfInBounds j true) (a.put o.dst u) w' := fun u w' h3 => by
        refine ih (listed.setIfInBounds j true) (a.put o.dst u) w' hfree' (ready_mono hr (Ne.symm hji)) (by rw [getD_set_ne false hjb]; exact hb) (fun p hp => by rw [getD_set_ne false (by rintro rfl; exact hjp hp)]; exact hpu p hp) (by rw [wanted_put oi a o.dst u p3, execOp_put oi (fun cs b => hs i oi cs b hi) a o.dst u p3]; exact hy) ?_
        rw [Array.setIfInBounds_comm _ _ hji, ← Act.put_comm a v u p2]
        exact h3
      exact ⟨fun hw1 => (h1.1 hw1).mono fun u w' h3 => step u w' h3, fun hw1 => step undef w (h1.2 hw1)⟩
end

section
variable {P : Program} {s : Strm} {n : Nat} {Q : Exit → Env → Mem → Hp → Prop} {env : Env} {m : Mem} {H : Hp} {ops : Array Oper}

def AW (P : Program) (s : Strm) (n : Nat) (ops : Array Oper) (Q : Exit → Env → Mem → Hp → Prop) (St : Mem → Hp → Prop) (b fuel : Nat) (listed : Array Bool) (env : Env) (m : Mem) (H : Hp) : Prop :=
  ∀ a w, Fr n a env → Ok s w m H → wpAnyB P ops (QW s n Q .normal) (fun w => ∃ m H, Ok s w m H ∧ St m H) b fuel listed a w

theorem CW_draw {id : Nat} (St : Mem → Hp → Prop) (b k : Nat) (hk : ops.size = k) (hm : P.follows .mixedOrders = true) (h : AW P s n ops Q St b k (Array.replicate k false) env m H) :
    CW P s n (.region id ops true) Q env m H := fun a w hf hok => by
  subst hk
  exact wp_region_any hm ((h a w.drew hf hok.drew).wpAny _ _ _ _)

variable {St : Mem → Hp → Prop} {b fuel : Nat} {listed : Array Bool}

theorem AW_takeW {i : Nat} {o : Oper} {d : Nat} {v : Value} (path : List Nat) (hi : ops[i]? = some o) (hd : o.dst = some d) (hdn : Nat.blt d n = true) (hchk : chkTake ops listed b path i = true)
    (hfl : ∀ a, Fr n a env → (Region.wanted o (yielded ops a.tmps) = true → ∀ m' H' w, St m' H' → Ok s w m' H' → (execOp a.eval o).run P w = .ok (.value v) w) ∧ (Region.wanted o (yielded ops a.tmps) = false → v = undef)) (h : AW P s n ops Q St b fuel (listed.setIfInBounds i true) ((d, v) :: env) m H) : AW P s n ops Q St b (fuel + 1) listed env m H := by
  intro a w hf hok
  simp only [chkTake, Bool.and_eq_true, Bool.or_eq_true, Bool.not_eq_true', List.all_eq_true] at hchk
  obtain ⟨⟨⟨⟨⟨c1, c2⟩, c3⟩, c4⟩, c5⟩, c6⟩ := hchk
  have c4' : i ∉ path := by simpa using c4
  have hpu : ∀ p ∈ path, listed.getD p false = false := fun p hp => (c6 p hp).1
  have hb : listed.getD b false = false ∧ i ≠ b ∧ (b ∈ path ∨ ops[b]? = none) := by
    rcases c5 with h | h
    · have hm : b ∈ path := by simpa using h
      exact ⟨hpu b hm, fun e => c4' (e ▸ hm), .inl hm⟩
    · exact ⟨h.1.2, by simpa using h.2, .inr (by simpa using h.1.1)⟩
  refine wpAnyB_take (path := path) hi c1 hb.2.1 c4' hb.2.2 (fun p hp op hop => ?_) fuel listed a w (Region.free_spec hi c2) (by simpa using c3) hb.1 hpu
    ⟨fun hw w' ⟨m', H', hok', hSt⟩ => (hfl a hf).1 hw m' H' w' hSt hok', (hfl a hf).2⟩ ?_
  · have := (c6 p hp).2
    rw [hop] at this
    simp only [Array.any_eq_true', Bool.and_eq_true, Bool.or_eq_true, beq_iff_eq] at this
    obtain ⟨e, he, h1, h2⟩ := this
    exact ⟨e, he, h1, h2.imp id (by simp)⟩
  · rw [hd]
    exact h _ w (hf.put (blt_lt hdn) v) hok

theorem GOk.wanted {a} {o : Oper} (hg : GOk ops env o.guard) (hf : Fr n a env) : Region.wanted o (yielded ops a.tmps) = true := by
  generalize e : o.guard = g at hg
  cases hg with
  | none => simp [Region.wanted, e]
  | yes hj hdj hb =>
    have := hf.get _ _ hb
    simp [Region.wanted, e, yielded, hj, hdj, this]

theorem AW_take {i : Nat} {o : Oper} {d : Nat} {v : Value} (path : List Nat) (hi : ops[i]? = some o) (hd : o.dst = some d) (hdn : Nat.blt d n = true) (hg : GOk ops env o.guard) (hchk : chkTake ops listed b path i = true)
    (hfl : ∀ m' H', St m' H' → OpP P s n o env m' H' v) (h : AW P s n ops Q St b fuel (listed.setIfInBounds i true) ((d, v) :: env) m H) : AW P s n ops Q St b (fuel + 1) listed env m H :=
  AW_takeW path hi hd hdn hchk (fun a hf => ⟨fun _ m' H' w hSt hok => hfl m' H' hSt a w hf hok, fun h => by rw [hg.wanted hf] at h; cases h⟩) h

/-- an operation under a guard that says no -/
theorem AW_no {i : Nat} {o : Oper} {d : Nat} (path : List Nat) {j : Nat} {want : Bool} {oj : Oper} {dj : Nat} (hi : ops[i]? = some o) (hd : o.dst = some d) (hdn : Nat.blt d n = true) (hg : o.guard = some (j, want)) (hj : ops[j]? = some oj) (hdj : oj.dst = some dj) (hb : look env dj = some (.bool (!want)))
    (hchk : chkTake ops listed b path i = true) (h : AW P s n ops Q St b fuel (listed.setIfInBounds i true) ((d, undef) :: env) m H) : AW P s n ops Q St b (fuel + 1) listed env m H :=
  AW_takeW path hi hd hdn hchk (fun a hf => by
    have hw : Region.wanted o (yielded ops a.tmps) = false := by
      have := hf.get _ _ hb
      cases want <;> simp [Region.wanted, hg, yielded, hj, hdj, this]
    exact ⟨fun h => absurd (hw.symm.trans h) (by decide), fun _ => rfl⟩) h

/-- one operation, of those that are ready -/
def AWop (P : Program) (s : Strm) (n : Nat) (ops : Array Oper) (Q : Exit → Env → Mem → Hp → Prop) (St : Mem → Hp → Prop) (b fuel : Nat) (listed : Array Bool) (env : Env) (m : Mem) (H : Hp) (i : Nat) : Prop :=
  ∃ o K, ops[i]? = some o ∧ GOk ops env o.guard ∧ (∀ d, o.dst = some d → d < n) ∧ OpT P s n o env m H K ∧
    ∀ v m' H', Mem.le m m' → K v m' H' → AW P s n ops Q St b fuel (listed.setIfInBounds i true) (putE o.dst v env) m' H'

theorem AW_go (rs : List Nat) (hr : Region.ready .any ops listed = rs) (hne : rs ≠ []) (hSt : listed.getD b false = false → St m H) (h : ∀ i ∈ rs, AWop P s n ops Q St b fuel listed env m H i) :
    AW P s n ops Q St b (fuel + 1) listed env m H := by
  intro a w hf hok
  refine ⟨fun hb => ⟨m, H, hok, hSt hb⟩, fun h0 => absurd (hr ▸ h0) hne, fun i hi o ho => ?_⟩
  rw [hr] at hi
  obtain ⟨o', K, ho', hg, hd, hop, hk⟩ := h i hi
  rw [ho] at ho'
  cases ho'
  have hw : Region.wanted o (yielded ops a.tmps) = true := by
    generalize e : o.guard = g at hg
    cases hg with
    | none => simp [Region.wanted, e]
    | yes hj hdj hb =>
      have := hf.get _ _ hb
      simp [Region.wanted, e, yielded, hj, hdj, this]
  refine ⟨fun _ => (hop a w hf hok).mono fun v w' ⟨m', H', hok', hle, hK⟩ => hk v m' H' hle hK _ w' ?_ hok', fun h => by rw [hw] at h; cases h⟩
  cases e : o.dst with
  | none => exact hf
  | some d => exact hf.put (hd d e) v

theorem AW_done (hr : Region.ready .any ops listed = []) (hSt : listed.getD b false = false → St m H) (h : Q .normal env m H) : AW P s n ops Q St b fuel listed env m H := by
  intro a w hf hok
  have hq : QW s n Q .normal a w := ⟨env, m, H, hf, hok, h⟩
  cases fuel with
  | zero => exact ⟨fun hb => ⟨m, H, hok, hSt hb⟩, hr, hq⟩
  | succ fuel => exact ⟨fun hb => ⟨m, H, hok, hSt hb⟩, fun _ => hq, by rw [hr]; simp⟩

/-- one operation alone is ready -/
theorem AW_one {i : Nat} {o : Oper} {K} (hr : Region.ready .any ops listed = [i]) (hSt : listed.getD b false = false → St m H) (ho : ops[i]? = some o) (hg : GOk ops env o.guard) (hd : ∀ d, o.dst = some d → d < n) (hop : OpT P s n o env m H K)
    (h : ∀ v m' H', Mem.le m m' → K v m' H' → AW P s n ops Q St b fuel (listed.setIfInBounds i true) (putE o.dst v env) m' H') : AW P s n ops Q St b (fuel + 1) listed env m H :=
  AW_go [i] hr (by simp) hSt fun j hj => by
    simp at hj
    subst hj
    exact ⟨o, K, ho, hg, hd, hop, h⟩

theorem AW_same {i : Nat} {o : Oper} {d v} (hr : Region.ready .any ops listed = [i]) (hSt : listed.getD b false = false → St m H) (ho : ops[i]? = some o) (hg : GOk ops env o.guard) (hdd : o.dst = some d) (hd : Nat.blt d n = true) (hop : OpP P s n o env m H v)
    (h : AW P s n ops Q St b fuel (listed.setIfInBounds i true) ((d, v) :: env) m H) : AW P s n ops Q St b (fuel + 1) listed env m H :=
  AW_one hr hSt ho hg (fun d' e => by rw [hdd] at e; cases e; exact blt_lt hd) hop.T fun v' m' H' _ ⟨e1, e2, e3⟩ => by
    subst e1; subst e2; subst e3
    rw [hdd]
    exact h
theorem AW_st {i : Nat} {o : Oper} {H'} (hr : Region.ready .any ops listed = [i]) (hSt : listed.getD b false = false → St m H) (ho : ops[i]? = some o) (hg : GOk ops env o.guard) (hdd : o.dst = none) (hop : OpT P s n o env m H (same undef m H'))
    (h : AW P s n ops Q St b fuel (listed.setIfInBounds i true) env m H') : AW P s n ops Q St b (fuel + 1) listed env m H :=
  AW_one hr hSt ho hg (fun d' e => by rw [hdd] at e; cases e) hop fun v' m' H1 _ ⟨_, e2, e3⟩ => by
    subst e2; subst e3
    rw [hdd]
    exact h
theorem AW_call {i : Nat} {o : Oper} {d K} (hr : Region.ready .any ops listed = [i]) (hSt : listed.getD b false = false → St m H) (ho : ops[i]? = some o) (hg : GOk ops env o.guard) (hdd : o.dst = some d) (hd : Nat.blt d n = true) (hop : OpT P s n o env m H K)
    (h : ∀ v m' H', Mem.le m m' → K v m' H' → AW P s n ops Q St b fuel (listed.setIfInBounds i true) ((d, v) :: env) m' H') : AW P s n ops Q St b (fuel + 1) listed env m H :=
  AW_one hr hSt ho hg (fun d' e => by rw [hdd] at e; cases e; exact blt_lt hd) hop fun v' m' H1 hle hk => by
    rw [hdd]
    exact h v' m' H1 hle hk
/-- the same, of one of several that are ready -/
theorem AWop_call {i : Nat} {o : Oper} {d K} (ho : ops[i]? = some o) (hg : GOk ops env o.guard) (hdd : o.dst = some d) (hd : Nat.blt d n = true) (hop : OpT P s n o env m H K)
    (h : ∀ v m' H', Mem.le m m' → K v m' H' → AW P s n ops Q St b fuel (listed.setIfInBounds i true) ((d, v) :: env) m' H') : AWop P s n ops Q St b fuel listed env m H i :=
  ⟨o, K, ho, hg, fun d' e => by rw [hdd] at e; cases e; exact blt_lt hd, hop, fun v' m' H1 hle hk => by rw [hdd]; exact h v' m' H1 hle hk⟩
theorem AW_two {i j : Nat} (hr : Region.ready .any ops listed = [i, j]) (hSt : listed.getD b false = false → St m H) (h1 : AWop P s n ops Q St b fuel listed env m H i) (h2 : AWop P s n ops Q St b fuel listed env m H j) :
    AW P s n ops Q St b (fuel + 1) listed env m H :=
  AW_go [i, j] hr (by simp) hSt fun k hk => by
    simp at hk
    rcases hk with rfl | rfl
    · exact h1
    · exact h2

theorem AW.freeze {α : Type} [Rep α] {E a k cap hs F} {l : List α} (ho : OwnT E m a k cap l hs) (hH : H.Perm (hs ++ F)) (h : ∀ m', Mem.le m m' → Sl m' a l → AW P s n ops Q St b fuel listed env m' F) : AW P s n ops Q St b fuel listed env m H :=
  fun x w hf hok => by
    obtain ⟨m', h1, h2, h3⟩ := Ok.freezeS (hok.perm hH) ho
    exact h m' h1 h3 x w hf h2
end
end Go.WL
