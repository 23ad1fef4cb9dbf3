/- A region that draws its order, told by what is known alone: calls that leave all as it was are taken ahead too. Conditions: none. -/
import Derived.Test.YtbhpofplencjgaaDoorL11
namespace Go.WL
open Go

/-- no less is known of the frame -/
def Env.le (e1 e2 : Env) : Prop := ∀ i v, look e1 i = some v → look e2 i = some v
theorem Env.le.refl (e : Env) : Env.le e e := fun _ _ h => h
theorem Env.le.trans {a b c : Env} (h : Env.le a b) (k : Env.le b c) : Env.le a c := fun i v hi => k i v (h i v hi)
theorem Env.le.cons {a b : Env} (h : Env.le a b) (d : Nat) (u : Value) : Env.le ((d, u) :: a) ((d, u) :: b) := fun i v hi => by
  by_cases e : d = i
  · subst e; rw [look_cons_self] at hi ⊢; exact hi
  · rw [look_cons_ne _ _ e] at hi ⊢; exact h i v hi
theorem Env.le.putE {a b : Env} (h : Env.le a b) (d : Option Nat) (u : Value) : Env.le (WL.putE d u a) (WL.putE d u b) := by
  cases d with
  | none => exact h
  | some d => exact h.cons d u
theorem Env.le.swap (e : Env) {d k : Nat} (u v : Value) (hne : d ≠ k) : Env.le ((k, v) :: (d, u) :: e) ((d, u) :: (k, v) :: e) := fun i x hi => by
  by_cases e1 : k = i
  · subst e1; rw [look_cons_self] at hi; rw [look_cons_ne _ _ hne, look_cons_self]; exact hi
  · rw [look_cons_ne _ _ e1] at hi
    by_cases e2 : d = i
    · subst e2; rw [look_cons_self] at hi ⊢; exact hi
    · rw [look_cons_ne _ _ e2] at hi ⊢; rw [look_cons_ne _ _ e1]; exact hi
theorem Fr.le {n a e1 e2} (h : Fr n a e2) (hl : Env.le e1 e2) : Fr n a e1 := ⟨h.defers, h.size, fun i v hi => h.get i v (hl i v hi)⟩

section
variable {P : Program} {s : Strm} {n : Nat} {Q : Exit → Env → Mem → Hp → Prop} {env : Env} {m : Mem} {H : Hp} {ops : Array Oper}

/-- what one operation does, under its guard -/
def OpG (P : Program) (s : Strm) (n : Nat) (ops : Array Oper) (o : Oper) (env : Env) (m : Mem) (H : Hp) (K : Value → Mem → Hp → Prop) : Prop :=
  ∀ a w, Fr n a env → Ok s w m H →
    (Region.wanted o (yielded ops a.tmps) = true → upV P (fun v w' => ∃ m' H', Ok s w' m' H' ∧ Mem.le m m' ∧ K v m' H') ((execOp a.eval o).run P w)) ∧
    (Region.wanted o (yielded ops a.tmps) = false → K undef m H)

theorem OpG.le {o : Oper} {e2 K} (h : OpG P s n ops o env m H K) (hl : Env.le env e2) : OpG P s n ops o e2 m H K := fun a w hf hok => h a w (hf.le hl) hok

def AS (P : Program) (s : Strm) (n : Nat) (ops : Array Oper) (Q : Exit → Env → Mem → Hp → Prop) (St : Mem → Hp → Prop) (b : Nat) : Nat → Array Bool → Env → Mem → Hp → Prop
  | 0, listed, env, m, H => (listed.getD b false = false → St m H) ∧ Region.ready .any ops listed = [] ∧ ∀ a w, Fr n a env → Ok s w m H → QW s n Q .normal a w
  | fuel + 1, listed, env, m, H => (listed.getD b false = false → St m H) ∧ (Region.ready .any ops listed = [] → ∀ a w, Fr n a env → Ok s w m H → QW s n Q .normal a w) ∧
    ∀ i ∈ Region.ready .any ops listed, ∀ o, ops[i]? = some o → (∀ d, o.dst = some d → d < n) ∧ ∃ K, OpG P s n ops o env m H K ∧
      ∀ v m' H', Mem.le m m' → K v m' H' → AS P s n ops Q St b fuel (listed.setIfInBounds i true) (putE o.dst v env) m' H'

variable {St : Mem → Hp → Prop} {b fuel : Nat} {listed : Array Bool}

theorem AS.j (h : AS P s n ops Q St b fuel listed env m H) : listed.getD b false = false → St m H := by
  cases fuel <;> exact h.1

theorem AS.le : ∀ {fuel : Nat} {listed : Array Bool} {env e2 : Env} {m : Mem} {H : Hp}, AS P s n ops Q St b fuel listed env m H → Env.le env e2 → AS P s n ops Q St b fuel listed e2 m H := by
  intro fuel
  induction fuel with
  | zero => exact fun h hl => ⟨h.1, h.2.1, fun a w hf hok => h.2.2 a w (hf.le hl) hok⟩
  | succ fuel ih =>
    intro listed env e2 m H h hl
    refine ⟨h.1, fun hr a w hf hok => h.2.1 hr a w (hf.le hl) hok, fun i hi o ho => ?_⟩
    obtain ⟨hd, K, h1, h2⟩ := h.2.2 i hi o ho
    exact ⟨hd, K, h1.le hl, fun v m' H' hle hk => ih (h2 v m' H' hle hk) (hl.putE _ _)⟩

theorem AW_of_AS : ∀ {fuel : Nat} {listed : Array Bool} {env : Env} {m : Mem} {H : Hp}, AS P s n ops Q St b fuel listed env m H → AW P s n ops Q St b fuel listed env m H := by
  intro fuel
  induction fuel with
  | zero => exact fun h a w hf hok => ⟨fun hb => ⟨_, _, hok, h.1 hb⟩, h.2.1, h.2.2 a w hf hok⟩
  | succ fuel ih =>
    intro listed env m H h a w hf hok
    refine ⟨fun hb => ⟨_, _, hok, h.1 hb⟩, fun hr => h.2.1 hr a w hf hok, fun i hi o ho => ?_⟩
    obtain ⟨hd, K, h1, h2⟩ := h.2.2 i hi o ho
    have hput : ∀ v, Fr n (a.put o.dst v) (putE o.dst v env) := fun v => by
      cases e : o.dst with
      | none => exact hf
      | some d => exact hf.put (hd d e) v
    refine ⟨fun hw => ((h1 a w hf hok).1 hw).mono fun v w' ⟨m', H', ok, hle, hk⟩ => ih (h2 v m' H' hle hk) _ w' (hput v) ok, fun hw => ?_⟩
    exact ih (h2 undef m H (Mem.le.refl m) ((h1 a w hf hok).2 hw)) _ w (hput undef) hok

theorem OpG.put {o : Oper} {k : Nat} {u : Value} {K} (h : OpG P s n ops o env m H K) (hs : ∀ cs b, o.op ≠ .select cs b) (hk : k ∉ o.looksAt ops) (hkn : k < n) : OpG P s n ops o ((k, u) :: env) m H K := fun a w hf hok => by
  have key : ∀ x : Value, (∀ y, look env k = some y → y = x) → Fr n (a.put (some k) x) env := fun x hx => by
    refine ⟨hf.defers, by simp [Act.put, hf.size], fun i v hi => ?_⟩
    by_cases e : k = i
    · subst e
      have := hx v hi
      subst this
      simp [Act.put, hf.size, hkn]
    · have := hf.get i v (by rw [look_cons_ne _ _ e]; exact hi)
      simp [Act.put, Array.getElem?_setIfInBounds_ne e, this]
  have hex : ∃ x : Value, ∀ y, look env k = some y → y = x := by
    cases e : look env k with
    | none => exact ⟨undef, fun y hy => by cases hy⟩
    | some y => exact ⟨y, fun z hz => (Option.some.inj hz).symm⟩
  obtain ⟨x, hx⟩ := hex
  have h1 := h (a.put (some k) x) w (key x hx) hok
  rwa [wanted_put o a (some k) x (fun d e => by cases e; exact hk), execOp_put o hs a (some k) x (fun d e => by cases e; exact hk)] at h1

/-- an operation that leaves all as it was, and yields v, is taken ahead -/
theorem AS_quiet0 {i : Nat} {oi : Oper} {d : Nat} {v : Value} {path : List Nat} (hi : ops[i]? = some oi) (hd : oi.dst = some d) (hdn : d < n) (hsel : Region.noSelect ops = true) (hib : i ≠ b) (hip : i ∉ path) (hbp : b ∈ path ∨ ops[b]? = none)
    (hbe : ∀ p ∈ path, ∀ op, ops[p]? = some op → ∃ e ∈ op.after, Region.binds .any e = true ∧ (e.on = i ∨ e.on ∈ path)) :
    ∀ (fuel : Nat) (listed : Array Bool) (env : Env) (m : Mem) (H : Hp),
      (∀ j oj, ops[j]? = some oj → j ≠ i → listed.getD j true = false → (∀ e ∈ oj.after, Region.binds .any e = true → e.on ≠ i) → oi.apart ops oj = true) →
      i ∈ Region.ready .any ops listed → listed.getD b false = false → (∀ p ∈ path, listed.getD p false = false) →
      (∀ m' H', Mem.le m m' → St m' H' → OpG P s n ops oi env m' H' (same v m' H')) →
      AS P s n ops Q St b fuel (listed.setIfInBounds i true) ((d, v) :: env) m H → AS P s n ops Q St b (fuel + 1) listed env m H := by
  have hs := Region.noSelect_spec hsel
  have hgb : ∀ (listed : Array Bool), (listed.setIfInBounds i true).getD b false = listed.getD b false := fun listed => getD_set_ne false hib
  intro fuel
  induction fuel with
  | zero =>
    intro listed env m H _ hr hb _ hy h
    have hJ : St m H := h.1 (by rw [hgb]; exact hb)
    refine ⟨fun _ => hJ, fun h0 => (by rw [h0] at hr; cases hr), fun j hj o ho => ?_⟩
    by_cases hji : j = i
    · subst hji
      rw [hi] at ho; cases ho
      refine ⟨fun d' e => (by rw [hd] at e; cases e; exact hdn), same v m H, hy _ _ (Mem.le.refl _) hJ, ?_⟩
      rintro _ _ _ _ ⟨rfl, rfl, rfl⟩
      rw [hd]; exact h
    · have := ready_mono hj hji
      rw [h.2.1] at this
      cases this
  | succ fuel ih =>
    intro listed env m H hfree hr hb hpu hy h
    have hJ : St m H := h.1 (by rw [hgb]; exact hb)
    refine ⟨fun _ => hJ, fun h0 => (by rw [h0] at hr; cases hr), fun j hj o ho => ?_⟩
    by_cases hji : j = i
    · subst hji
      rw [hi] at ho; cases ho
      refine ⟨fun d' e => (by rw [hd] at e; cases e; exact hdn), same v m H, hy _ _ (Mem.le.refl _) hJ, ?_⟩
      rintro _ _ _ _ ⟨rfl, rfl, rfl⟩
      rw [hd]; exact h
    · obtain ⟨hjun, oj, hoj, hall⟩ := mem_ready.1 hj
      rw [ho] at hoj
      cases hoj
      have hiun := (mem_ready.1 hr).1
      have hnot : ∀ e ∈ o.after, Region.binds .any e = true → e.on ≠ i := fun e he hbd heq => by
        have h1 := hall e he hbd
        rw [heq] at h1
        rcases Nat.lt_or_ge i listed.size with h' | h'
        · simp [h'] at hiun h1; rw [hiun] at h1; cases h1
        · simp [Array.getElem?_eq_none h'] at h1
      have hjp : j ∉ path := fun hjp => by
        obtain ⟨e, he, hbd, heq | hep⟩ := hbe j hjp o ho
        · exact hnot e he hbd heq
        · have h1 := hall e he hbd
          rw [hpu _ hep] at h1
          cases h1
      have hjb : j ≠ b := by
        rintro rfl
        rcases hbp with h | h
        · exact hjp h
        · rw [ho] at h; cases h
      have hap := hfree j o ho hji hjun hnot
      obtain ⟨p1, p2, p3⟩ := Oper.apart_spec hap
      obtain ⟨hdj, K, h1, h2⟩ := h.2.2 j (ready_mono hj hji) o ho
      refine ⟨hdj, K, fun a w hf hok => ?_, fun u m' H' hle hk => ?_⟩
      · have h3 := h1 (a.put oi.dst v) w (by rw [hd]; exact hf.put hdn v) hok
        rwa [wanted_put o a oi.dst v p1, execOp_put o (fun cs b => hs j o cs b ho) a oi.dst v p1] at h3
      · have hfree' : ∀ k ok, ops[k]? = some ok → k ≠ i → (listed.setIfInBounds j true).getD k true = false →
            (∀ e ∈ ok.after, Region.binds .any e = true → e.on ≠ i) → oi.apart ops ok = true := fun k ok hk hki hun hno => by
          refine hfree k ok hk hki ?_ hno
          by_cases hjk : j = k
          · subst hjk; exact hjun
          · rw [getD_set_ne true hjk] at hun; exact hun
        have hne : ∀ k, o.dst = some k → d ≠ k := fun k e e2 => by
          subst e2
          exact p2 _ hd e
        refine ih (listed.setIfInBounds j true) (putE o.dst u env) m' H' hfree' (ready_mono hr (Ne.symm hji)) (by rw [getD_set_ne false hjb]; exact hb) (fun p hp => by rw [getD_set_ne false (by rintro rfl; exact hjp hp)]; exact hpu p hp) ?_ ?_
        · intro m2 H2 hle2 hSt
          have h5 := hy m2 H2 (hle.trans hle2) hSt
          cases e : o.dst with
          | none => exact h5
          | some k => exact h5.put (fun cs b => hs i oi cs b hi) (p3 k e) (hdj k e)
        · have h4 := h2 u m' H' hle hk
          rw [Array.setIfInBounds_comm _ _ hji]
          refine h4.le ?_
          cases e : o.dst with
          | none => exact Env.le.refl _
          | some k => exact Env.le.swap env v u (hne k e)

theorem OpG.of {o : Oper} {K} (hg : GOk ops env o.guard) (h : OpT P s n o env m H K) : OpG P s n ops o env m H K := fun a w hf hok =>
  ⟨fun _ => h a w hf hok, fun hw => by rw [hg.wanted hf] at hw; cases hw⟩
theorem OpG.no {o : Oper} {j : Nat} {want : Bool} {oj : Oper} {dj : Nat} {u : Value} (hg : o.guard = some (j, want)) (hj : ops[j]? = some oj) (hdj : oj.dst = some dj) (hb : look env dj = some u) (hu : u ≠ .bool want) : OpG P s n ops o env m H (same undef m H) := fun a w hf hok => by
  have hw : Region.wanted o (yielded ops a.tmps) = false := by
    have := hf.get _ _ hb
    cases u <;> simp_all [Region.wanted, yielded]
  exact ⟨fun h => absurd (hw.symm.trans h) (by decide), fun _ => ⟨rfl, rfl, rfl⟩⟩

theorem AS_quiet {i : Nat} {o : Oper} {d : Nat} {v : Value} (path : List Nat) (hi : ops[i]? = some o) (hd : o.dst = some d) (hdn : Nat.blt d n = true) (hchk : chkTake ops listed b path i = true)
    (hfl : ∀ m' H', Mem.le m m' → St m' H' → OpG P s n ops o env m' H' (same v m' H')) (h : AS P s n ops Q St b fuel (listed.setIfInBounds i true) ((d, v) :: env) m H) : AS P s n ops Q St b (fuel + 1) listed env m H := by
  simp only [chkTake, Bool.and_eq_true, Bool.or_eq_true, Bool.not_eq_true', List.all_eq_true] at hchk
  obtain ⟨⟨⟨⟨⟨c1, c2⟩, c3⟩, c4⟩, c5⟩, c6⟩ := hchk
  have c4' : i ∉ path := by simpa using c4
  have hpu : ∀ p ∈ path, listed.getD p false = false := fun p hp => (c6 p hp).1
  have hb : listed.getD b false = false ∧ i ≠ b ∧ (b ∈ path ∨ ops[b]? = none) := by
    rcases c5 with h | h
    · have hm : b ∈ path := by simpa using h
      exact ⟨hpu b hm, fun e => c4' (e ▸ hm), .inl hm⟩
    · exact ⟨h.1.2, by simpa using h.2, .inr (by simpa using h.1.1)⟩
  refine AS_quiet0 (path := path) hi hd (blt_lt hdn) c1 hb.2.1 c4' hb.2.2 (fun p hp op hop => ?_) fuel listed env m H (Region.free_spec hi c2) (by simpa using c3) hb.1 hpu hfl h
  have := (c6 p hp).2
  rw [hop] at this
  simp only [Array.any_eq_true', Bool.and_eq_true, Bool.or_eq_true, beq_iff_eq] at this
  obtain ⟨e, he, h1, h2⟩ := this
  exact ⟨e, he, h1, h2.imp id (by simp)⟩

/-- taken ahead: what only reckons or reads -/
theorem AS_take {i : Nat} {o : Oper} {d : Nat} {v : Value} (path : List Nat) (hi : ops[i]? = some o) (hd : o.dst = some d) (hdn : Nat.blt d n = true) (hg : GOk ops env o.guard) (hchk : chkTake ops listed b path i = true)
    (hfl : ∀ m' H', St m' H' → OpP P s n o env m' H' v) (h : AS P s n ops Q St b fuel (listed.setIfInBounds i true) ((d, v) :: env) m H) : AS P s n ops Q St b (fuel + 1) listed env m H :=
  AS_quiet path hi hd hdn hchk (fun m' H' _ hSt => .of hg (hfl m' H' hSt).T) h
/-- taken ahead: a call that leaves all as it was -/
theorem AS_qcall {i : Nat} {o : Oper} {d : Nat} {v : Value} (path : List Nat) (hi : ops[i]? = some o) (hd : o.dst = some d) (hdn : Nat.blt d n = true) (hg : GOk ops env o.guard) (hchk : chkTake ops listed b path i = true)
    (hfl : ∀ m' H', Mem.le m m' → St m' H' → OpT P s n o env m' H' (fun v' m'' H'' => v' = v ∧ m' = m'' ∧ H' = H'')) (h : AS P s n ops Q St b fuel (listed.setIfInBounds i true) ((d, v) :: env) m H) : AS P s n ops Q St b (fuel + 1) listed env m H :=
  AS_quiet path hi hd hdn hchk (fun m' H' hle hSt => .of hg ((hfl m' H' hle hSt).mono fun _ _ _ _ ⟨e1, e2, e3⟩ => ⟨e1, e2.symm, e3.symm⟩)) h
theorem AS_no {i : Nat} {o : Oper} {d : Nat} (path : List Nat) {j : Nat} {want : Bool} {oj : Oper} {dj : Nat} (hi : ops[i]? = some o) (hd : o.dst = some d) (hdn : Nat.blt d n = true) (hg : o.guard = some (j, want)) (hj : ops[j]? = some oj) (hdj : oj.dst = some dj) (hb : look env dj = some (.bool (!want)))
    (hchk : chkTake ops listed b path i = true) (h : AS P s n ops Q St b fuel (listed.setIfInBounds i true) ((d, undef) :: env) m H) : AS P s n ops Q St b (fuel + 1) listed env m H :=
  AS_quiet path hi hd hdn hchk (fun m' H' hle hSt => .no hg hj hdj hb (by cases want <;> simp)) h
theorem AS_nou {i : Nat} {o : Oper} {d : Nat} (path : List Nat) {j : Nat} {want : Bool} {oj : Oper} {dj : Nat} (hi : ops[i]? = some o) (hd : o.dst = some d) (hdn : Nat.blt d n = true) (hg : o.guard = some (j, want)) (hj : ops[j]? = some oj) (hdj : oj.dst = some dj) (hb : look env dj = some undef)
    (hchk : chkTake ops listed b path i = true) (h : AS P s n ops Q St b fuel (listed.setIfInBounds i true) ((d, undef) :: env) m H) : AS P s n ops Q St b (fuel + 1) listed env m H :=
  AS_quiet path hi hd hdn hchk (fun m' H' hle hSt => .no hg hj hdj hb (by simp [undef])) h

/-- one operation, of those that are ready -/
def ASop (P : Program) (s : Strm) (n : Nat) (ops : Array Oper) (Q : Exit → Env → Mem → Hp → Prop) (St : Mem → Hp → Prop) (b fuel : Nat) (listed : Array Bool) (env : Env) (m : Mem) (H : Hp) (i : Nat) : Prop :=
  ∃ o K, ops[i]? = some o ∧ (∀ d, o.dst = some d → d < n) ∧ OpG P s n ops o env m H K ∧
    ∀ v m' H', Mem.le m m' → K v m' H' → AS P s n ops Q St b fuel (listed.setIfInBounds i true) (putE o.dst v env) m' H'
theorem AS_go (rs : List Nat) (hr : Region.ready .any ops listed = rs) (hne : rs ≠ []) (hSt : listed.getD b false = false → St m H) (h : ∀ i ∈ rs, ASop P s n ops Q St b fuel listed env m H i) :
    AS P s n ops Q St b (fuel + 1) listed env m H := by
  refine ⟨hSt, fun h0 => absurd (hr ▸ h0) hne, fun i hi o ho => ?_⟩
  rw [hr] at hi
  obtain ⟨o', K, ho', hd, hop, hk⟩ := h i hi
  rw [ho] at ho'
  cases ho'
  exact ⟨hd, K, hop, hk⟩
theorem AS_done (hr : Region.ready .any ops listed = []) (hSt : listed.getD b false = false → St m H) (h : Q .normal env m H) : AS P s n ops Q St b fuel listed env m H := by
  have hq : ∀ a w, Fr n a env → Ok s w m H → QW s n Q .normal a w := fun a w hf hok => ⟨env, m, H, hf, hok, h⟩
  cases fuel with
  | zero => exact ⟨hSt, hr, hq⟩
  | succ fuel => exact ⟨hSt, fun _ => hq, by rw [hr]; simp⟩
theorem ASop_call {i : Nat} {o : Oper} {d K} (ho : ops[i]? = some o) (hg : GOk ops env o.guard) (hdd : o.dst = some d) (hd : Nat.blt d n = true) (hop : OpT P s n o env m H K)
    (h : ∀ v m' H', Mem.le m m' → K v m' H' → AS P s n ops Q St b fuel (listed.setIfInBounds i true) ((d, v) :: env) m' H') : ASop P s n ops Q St b fuel listed env m H i :=
  ⟨o, K, ho, fun d' e => by rw [hdd] at e; cases e; exact blt_lt hd, .of hg hop, fun v' m' H1 hle hk => by rw [hdd]; exact h v' m' H1 hle hk⟩
theorem ASop_same {i : Nat} {o : Oper} {d v} (ho : ops[i]? = some o) (hg : GOk ops env o.guard) (hdd : o.dst = some d) (hd : Nat.blt d n = true) (hop : OpP P s n o env m H v)
    (h : AS P s n ops Q St b fuel (listed.setIfInBounds i true) ((d, v) :: env) m H) : ASop P s n ops Q St b fuel listed env m H i :=
  ASop_call ho hg hdd hd hop.T fun v' m' H' _ ⟨e1, e2, e3⟩ => by
    subst e1; subst e2; subst e3
    exact h
theorem ASop_st {i : Nat} {o : Oper} {H'} (ho : ops[i]? = some o) (hg : GOk ops env o.guard) (hdd : o.dst = none) (hop : OpT P s n o env m H (same undef m H'))
    (h : AS P s n ops Q St b fuel (listed.setIfInBounds i true) env m H') : ASop P s n ops Q St b fuel listed env m H i :=
  ⟨o, same undef m H', ho, fun d' e => (by rw [hdd] at e; cases e), .of hg hop, fun v' m' H1 _ ⟨_, e2, e3⟩ => (by subst e2; subst e3; rw [hdd]; exact h)⟩
theorem AS_one {i : Nat} (hr : Region.ready .any ops listed = [i]) (hSt : listed.getD b false = false → St m H) (h : ASop P s n ops Q St b fuel listed env m H i) : AS P s n ops Q St b (fuel + 1) listed env m H :=
  AS_go [i] hr (by simp) hSt fun j hj => by
    simp at hj
    subst hj
    exact h
theorem AS_two {i j : Nat} (hr : Region.ready .any ops listed = [i, j]) (hSt : listed.getD b false = false → St m H) (h1 : ASop P s n ops Q St b fuel listed env m H i) (h2 : ASop P s n ops Q St b fuel listed env m H j) :
    AS P s n ops Q St b (fuel + 1) listed env m H :=
  AS_go [i, j] hr (by simp) hSt fun k hk => by
    simp at hk
    rcases hk with rfl | rfl
    · exact h1
    · exact h2
theorem AS_three {i j k : Nat} (hr : Region.ready .any ops listed = [i, j, k]) (hSt : listed.getD b false = false → St m H) (h1 : ASop P s n ops Q St b fuel listed env m H i) (h2 : ASop P s n ops Q St b fuel listed env m H j) (h3 : ASop P s n ops Q St b fuel listed env m H k) :
    AS P s n ops Q St b (fuel + 1) listed env m H :=
  AS_go [i, j, k] hr (by simp) hSt fun q hq => by
    simp at hq
    rcases hq with rfl | rfl | rfl
    · exact h1
    · exact h2
    · exact h3
theorem AS.again {d : Nat} {u : Value} (hu : look env d = some u) (h : AS P s n ops Q St b fuel listed ((d, u) :: env) m H) : AS P s n ops Q St b fuel listed env m H :=
  h.le fun i v hi => by
    by_cases e : d = i
    · subst e; rw [look_cons_self] at hi; cases hi; exact hu
    · rwa [look_cons_ne _ _ e] at hi
theorem AS_part (d : Nat) {t : Bool} (hb : look env d = some (.bool t)) (h1 : t = true → AS P s n ops Q St b fuel listed ((d, .bool true) :: env) m H) (h2 : t = false → AS P s n ops Q St b fuel listed ((d, .bool false) :: env) m H) :
    AS P s n ops Q St b fuel listed env m H := by
  cases t
  · exact (h2 rfl).again hb
  · exact (h1 rfl).again hb
theorem AS_partd (d : Nat) {p : Prop} [Decidable p] (hb : look env d = some (.bool (decide p))) (h1 : p → AS P s n ops Q St b fuel listed ((d, .bool true) :: env) m H) (h2 : ¬ p → AS P s n ops Q St b fuel listed ((d, .bool false) :: env) m H) :
    AS P s n ops Q St b fuel listed env m H := AS_part d hb (fun e => h1 (of_decide_eq_true e)) (fun e => h2 (of_decide_eq_false e))
theorem AS_partn (d : Nat) {p : Prop} [Decidable p] (hb : look env d = some (.bool (!decide p))) (h1 : ¬ p → AS P s n ops Q St b fuel listed ((d, .bool true) :: env) m H) (h2 : p → AS P s n ops Q St b fuel listed ((d, .bool false) :: env) m H) :
    AS P s n ops Q St b fuel listed env m H := AS_part d hb (fun e => h1 (by simpa using e)) (fun e => h2 (by simpa using e))
theorem CW_drawS {id : Nat} (St : Mem → Hp → Prop) (b k : Nat) (hk : ops.size = k) (hm : P.follows .mixedOrders = true) (h : AS P s n ops Q St b k (Array.replicate k false) env m H) :
    CW P s n (.region id ops true) Q env m H := CW_draw St b k hk hm (AW_of_AS h)
end
end Go.WL
namespace Go.WL
open Go
section
variable {P : Program} {s : Strm} {n : Nat} {Q : Exit → Env → Mem → Hp → Prop} {env : Env} {m : Mem} {H : Hp}
/-- behind x there are three new blocks, and what is known of them -/
theorem CW_merge9 {x y : Code} (E : Nat → Nat → Nat → Env) (HH : Nat → Nat → Nat → Hp)
    (h1 : CW P s n x (fun e env' m' H' => e = .normal ∧ ∃ b9 b10 b11, Env.sub (E b9 b10 b11) env' ∧ m' = m ∧ ∃ L, H'.Perm (L ++ HH b9 b10 b11)) env m H) (h2 : ∀ b9 b10 b11, CW P s n y Q (E b9 b10 b11) m (HH b9 b10 b11)) :
    CW P s n x (thenQ (CW P s n y Q) Q) env m H :=
  h1.mono fun e env' m' H' ⟨e1, b9, b10, b11, hs, e3, L, hp⟩ => by
    subst e1; subst e3
    exact CW.keep _ hs (CW.drop hp (h2 b9 b10 b11))
end
end Go.WL
namespace Go.WL
theorem stOf {listed : Array Bool} {b : Nat} {X : Prop} (h : listed.getD b false = true) : listed.getD b false = false → X := fun h2 => by rw [h] at h2; cases h2
end Go.WL
namespace Go.WL
open Go
theorem Ats.pre {m : Mem} {H : Hp} {b : Nat} {T : TypeId} {l r : List Value} (h : (b, box T (l ++ r)) ∈ H) : Ats m H b 0 l := fun j v hj => At.own h (by
  rw [Nat.zero_add, List.getElem?_append_left (List.getElem?_eq_some_iff.1 hj).1]; exact hj)
end Go.WL
