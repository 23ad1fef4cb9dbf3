/- Slices that are owned and grow, what they hold, and what becomes immutable. Conditions: none. -/
import Derived.Test.YtbhpofplencjgaaDoorL4
namespace Go.WL
open Go

/-- a slice whose block is owned: it begins at the block's head; its first n elements (sz cells each) are xs -/
def OwnS (E : TypeId) (sz : Nat) (a : Option Addr) (n cap : Nat) (xs : List Value) (hs : Hp) : Prop :=
  xs.length = n * sz ∧ ((a = none ∧ n = 0 ∧ cap = 0 ∧ hs = []) ∨
    ∃ b cur, a = some ⟨b, 0, none⟩ ∧ hs = [(b, box E cur)] ∧ n ≤ cap ∧ cur.length = cap * sz ∧ cur.take (n * sz) = xs)

theorem OwnS.nil (E sz) : OwnS E sz none 0 0 [] [] := ⟨by simp, .inl ⟨rfl, rfl, rfl, rfl⟩⟩
theorem OwnS.box {E sz b cur n} (h : cur.length = n * sz) : OwnS E sz (some ⟨b, 0, none⟩) n n cur [(b, box E cur)] :=
  ⟨h, .inr ⟨b, cur, rfl, rfl, Nat.le_refl _, h, by rw [← h]; simp⟩⟩

theorem take_len {xs cur : List Value} {k : Nat} (h : cur.take k = xs) (hl : xs.length = k) : k ≤ cur.length := by
  have := congrArg List.length h
  rw [List.length_take] at this
  omega

section
variable {P : Program} {s : Strm} {n : Nat} {Q : Exit → Env → Mem → Hp → Prop} {env : Env} {m : Mem} {H : Hp} {ops : Array Oper} {rest : List Oper}
variable {d : Option Nat} {ty : TypeId} {pos : String} {aft : Array Edge} {gd : Option (Nat × Bool)}

theorem zeroCells_len (z : Array Value) (k : Nat) : (Builtin.zeroCells z k).toList.length = k * z.size := by simp [Builtin.zeroCells]

/-- append(xs, ys...), ys not nil -/
theorem T_append {T E sz by_ x y a0 k cap xs hs F j c2 b2 o2 news z} [hs' : SlT P T E sz by_] [hz : Zr P E z] (hzl : z.length = sz)
    (hx : ev env x = some (.slice a0 k cap)) (hy : ev env y = some (.slice (some ⟨b2, o2, none⟩) j c2)) (hown : OwnS E sz a0 k cap xs hs) (hH : H.Perm (hs ++ F))
    (hnews : Ats m H b2 o2 news) (hl : news.length = j * sz) (h1 : news.all (·.oneCell') = true) (hb : (k + j) * by_ ≤ 140737488355328) (hn : k + j ≤ 9223372036854775807) :
    OpT P s n ⟨d, .call { callee := .builtin .append, args := #[x, y], argTypes := #[T, T] }, ty, pos, aft, gd⟩ env m H
      fun v m' H' => ∃ a' cap' hs', v = .slice a' (k + j) cap' ∧ OwnS E sz a' (k + j) cap' (xs ++ news) hs' ∧ m = m' ∧ H' = hs' ++ F :=
  .run fun a w hf hok => by
    obtain ⟨i, hi, hsz, hby⟩ := hs'.parts
    have hzh := hz.h
    rw [hi] at hzh
    simp only [Option.bind_some, Option.map_eq_some_iff] at hzh
    obtain ⟨zv, hzv, hzc⟩ := hzh
    have hok2 := hok.perm hH
    have hnews' : ∀ q u, news[q]? = some u → w.cell? ((⟨b2, o2, none⟩ : Addr).add q) = some u := fun q u hq => by
      rw [Addr.add_lit]; exact (hnews q u hq).cell hok
    have hex : ∀ r w', (Builtin.append_ #[T, T] ty #[.slice a0 k cap, .slice (some ⟨b2, o2, none⟩) j c2]).run P w = .ok r w' →
        (execOp a.eval ⟨d, .call { callee := .builtin .append, args := #[x, y], argTypes := #[T, T] }, ty, pos, aft, gd⟩).run P w = .ok (.value r) w' := by
      intro r w' hr
      simp [execOp, resolve, invoke, builtin, hf.ev hx, hf.ev hy, hr]
    have hlen : (xs ++ news).length = (k + j) * sz := by rw [List.length_append, hown.1, hl, Nat.add_mul]
    rcases hown.2 with ⟨rfl, rfl, rfl, rfl⟩ | ⟨b, cur, rfl, rfl, hkc, hcl, htk⟩
    · have hx0 : xs = [] := List.eq_nil_of_length_eq_zero (by simpa using hown.1)
      subst hx0
      by_cases hj : j = 0
      · subst hj
        have hn0 : news = [] := List.eq_nil_of_length_eq_zero (by simpa using hl)
        subst hn0
        refine ⟨_, w, m, _, hex (.slice none 0 0) w ?_, hok2, Mem.le.refl m, none, 0, [], rfl, OwnS.nil E sz, rfl, rfl⟩
        simp [Builtin.append_, run_underlying hs'.u, sizeOf, typeInfo, hi, Builtin.lenOf, Builtin.firstCells, loadCells, loadCellsFrom]
      · have hr := run_append_nil (P := P) w T ty E i zv hs'.u hi hzv ⟨b2, o2, none⟩ j c2 news (by rw [hl, hsz]) hnews' (by omega) (by omega) (by rw [hby]; simp only [Nat.zero_add] at hb; omega)
        rw [show news.toArray ++ Builtin.zeroCells zv.cells (grownCap w j 0 E - j) = ⟨news ++ (Builtin.zeroCells zv.cells (grownCap w j 0 E - j)).toList⟩ from Array.ext' (by simp)] at hr
        refine ⟨_, _, m, _, hex _ _ hr, (hok2.drew.alloc (box E (news ++ (Builtin.zeroCells zv.cells (grownCap w j 0 E - j)).toList))), Mem.le.refl m, some ⟨w.heap.size, 0, none⟩, grownCap w j 0 E, [(w.heap.size, box E (news ++ (Builtin.zeroCells zv.cells (grownCap w j 0 E - j)).toList))], ?_, ⟨hlen, .inr ⟨_, _, rfl, rfl, ?_, ?_, ?_⟩⟩, rfl, rfl⟩
        · simp
        · simpa using grownCap_ge w j 0 E
        · have hge := grownCap_ge w j 0 E
          rw [List.length_append, zeroCells_len, hl, hzc]
          show j * sz + _ * z.length = _
          rw [hzl, ← Nat.add_mul]; congr 1; omega
        · rw [Nat.zero_add, ← hl]; simp
    · by_cases hroom : k + j ≤ cap
      · have hg : w.heap[b]? = some (.cells ⟨cur⟩ E (0, 0)) := hok2.own (b, box E cur) (by simp)
        have hfit : k * i.size + news.length ≤ (Array.mk cur).size := by
          show _ ≤ cur.length
          rw [hl, hcl, hsz, ← Nat.add_mul]; exact Nat.mul_le_mul_right _ hroom
        have hr := run_append_room (P := P) w T ty E i hs'.u hi b k cap ⟨cur⟩ hg ⟨b2, o2, none⟩ j c2 news (by rw [hl, hsz]) hnews' (by simpa using h1) hroom hfit
        rw [hsz] at hr hfit
        refine ⟨_, _, m, _, hex _ _ hr, hok2.upd (o' := box E (cur.take (k * sz) ++ news ++ cur.drop (k * sz + news.length))) rfl rfl rfl (by simp [World.setRow]) ?_ (fun q hq => setRow_other w b q _ hq), Mem.le.refl m,
          some ⟨b, 0, none⟩, cap, [(b, box E (cur.take (k * sz) ++ news ++ cur.drop (k * sz + news.length)))], rfl, ⟨hlen, .inr ⟨_, _, rfl, rfl, hroom, ?_, ?_⟩⟩, rfl, rfl⟩
        · have := setRow_heap w b _ (cur.take (k * sz) ++ news ++ cur.drop (k * sz + news.length)).toArray E (0, 0) hg
          exact this
        · have h2 : k * sz + news.length ≤ cur.length := hfit
          simp only [List.length_append, List.length_take, List.length_drop]
          rw [← hcl]; omega
        · rw [htk, ← hlen]; exact List.take_left
      · have holds : ∀ q u, xs[q]? = some u → w.cell? ((⟨b, 0, none⟩ : Addr).add q) = some u := fun q u hq => by
          rw [Addr.add_lit, Nat.zero_add]
          refine (At.own (m := m) (H := (b, box E cur) :: F) (T := E) (l := cur) (by simp) ?_).cell hok2
          rw [← htk, List.getElem?_take] at hq
          split at hq
          · exact hq
          · cases hq
        have hr := run_append_grow (P := P) w T ty E i zv hs'.u hi hzv ⟨b, 0, none⟩ k cap xs (by rw [hown.1, hsz]) holds ⟨b2, o2, none⟩ j c2 news (by rw [hl, hsz]) hnews' (by omega) (by omega) (growslice_fits (by omega) (by rw [hby]; exact hb))
        rw [show xs.toArray ++ news.toArray ++ Builtin.zeroCells zv.cells (grownCap w (k + j) cap E - (k + j)) = ⟨xs ++ news ++ (Builtin.zeroCells zv.cells (grownCap w (k + j) cap E - (k + j))).toList⟩ from Array.ext' (by simp)] at hr
        have hok3 : Ok s w m F := Ok.drop [(b, box E cur)] hok2
        refine ⟨_, _, m, _, hex _ _ hr, (hok3.drew.alloc (box E (xs ++ news ++ (Builtin.zeroCells zv.cells (grownCap w (k + j) cap E - (k + j))).toList))), Mem.le.refl m, some ⟨w.heap.size, 0, none⟩, grownCap w (k + j) cap E,
          [(w.heap.size, box E (xs ++ news ++ (Builtin.zeroCells zv.cells (grownCap w (k + j) cap E - (k + j))).toList))], rfl, ⟨hlen, .inr ⟨_, _, rfl, rfl, grownCap_ge w (k + j) cap E, ?_, ?_⟩⟩, rfl, ?_⟩
        · have hge := grownCap_ge w (k + j) cap E
          rw [List.length_append, zeroCells_len, hlen, hzc]
          show _ + _ * z.length = _
          rw [hzl, ← Nat.add_mul]; congr 1; omega
        · rw [← hlen]; exact List.take_left
        · simp

/-- append(xs, ys...), ys without elements -/
theorem T_append0 {T E sz by_ x y a0 k cap b2 c2} [hs' : SlT P T E sz by_] (hx : ev env x = some (.slice a0 k cap)) (hy : ev env y = some (.slice b2 0 c2)) (hk : k ≤ cap) (hd : ∀ b, a0 = some b → b.spot = none) :
    OpP P s n ⟨d, .call { callee := .builtin .append, args := #[x, y], argTypes := #[T, T] }, ty, pos, aft, gd⟩ env m H (.slice a0 k cap) :=
  fun a w hf hok => by
    obtain ⟨i, hi, hsz, hby⟩ := hs'.parts
    cases a0 <;> cases b2 <;>
      simp [execOp, resolve, invoke, builtin, hf.ev hx, hf.ev hy, Builtin.append_, run_underlying hs'.u, sizeOf, typeInfo, hi, Builtin.lenOf, Builtin.firstCells, loadCells, loadCellsFrom, hk, storeCells]
end

/-! ## What cells mean -/
/-- things of a type: of so many cells; which cells stand for which thing, given what is immutable -/
class Rep (α : Type) where
  sz : Nat
  cells : Mem → α → List Value → Prop
  len : ∀ {m x cs}, cells m x cs → cs.length = sz
  mono : ∀ {m m' x cs}, Mem.le m m' → cells m x cs → cells m' x cs
  one : ∀ {m x cs}, cells m x cs → cs.all (·.oneCell') = true

section
variable {α : Type} [Rep α] {m m' : Mem} {H : Hp}

inductive RepL (m : Mem) : List α → List Value → Prop
  | nil : RepL m [] []
  | cons {x l cs xs} (h : Rep.cells m x cs) (hr : RepL m l xs) : RepL m (x :: l) (cs ++ xs)

theorem RepL.len {l : List α} {xs} (h : RepL m l xs) : xs.length = l.length * Rep.sz α := by
  induction h with
  | nil => simp
  | cons h hr ih => rw [List.length_append, Rep.len h, ih, List.length_cons, Nat.succ_mul, Nat.add_comm]
theorem RepL.mono {l : List α} {xs} (hle : Mem.le m m') (h : RepL m l xs) : RepL m' l xs := by
  induction h with
  | nil => exact .nil
  | cons h hr ih => exact .cons (Rep.mono hle h) ih
theorem RepL.one {l : List α} {xs} (h : RepL m l xs) : xs.all (·.oneCell') = true := by
  induction h with
  | nil => rfl
  | cons h hr ih => rw [List.all_append, Rep.one h, ih]; rfl
theorem RepL.append {l k : List α} {xs ys} (h : RepL m l xs) (g : RepL m k ys) : RepL m (l ++ k) (xs ++ ys) := by
  induction h with
  | nil => exact g
  | cons h hr ih => rw [List.cons_append, List.append_assoc]; exact .cons h ih
theorem RepL.single {x : α} {cs} (h : Rep.cells m x cs) : RepL m [x] cs := by
  have := RepL.cons h (RepL.nil (m := m) (α := α))
  rwa [List.append_nil] at this
theorem RepL.get {l : List α} {xs} (h : RepL m l xs) : ∀ (i : Nat) (hi : i < l.length), ∃ cs, Rep.cells m l[i] cs ∧ ∀ (j : Nat) v, cs[j]? = some v → xs[i * Rep.sz α + j]? = some v := by
  induction h with
  | nil => intro i hi; simp at hi
  | @cons x l cs xs h hr ih =>
    intro i hi
    cases i with
    | zero => exact ⟨cs, h, fun j v hj => by
        have : j < cs.length := (List.getElem?_eq_some_iff.1 hj).1
        rw [Nat.zero_mul, Nat.zero_add, List.getElem?_append_left this]; exact hj⟩
    | succ i =>
      obtain ⟨cs', h1, h2⟩ := ih i (by simpa using hi)
      refine ⟨cs', by simpa using h1, fun j v hj => ?_⟩
      have hl := Rep.len h
      rw [List.getElem?_append_right (by rw [Nat.succ_mul]; omega), show (i + 1) * Rep.sz α + j - cs.length = i * Rep.sz α + j by rw [Nat.succ_mul]; omega]
      exact h2 j v hj
theorem RepL.inv_append {l k : List α} {zs} (h : RepL m (l ++ k) zs) : ∃ xs ys, zs = xs ++ ys ∧ RepL m l xs ∧ RepL m k ys := by
  induction l generalizing zs with
  | nil => exact ⟨[], zs, rfl, .nil, h⟩
  | cons x l ih =>
    cases h with
    | cons h hr =>
      obtain ⟨xs, ys, rfl, h1, h2⟩ := ih hr
      exact ⟨_ ++ xs, ys, by rw [List.append_assoc], .cons h h1, h2⟩
theorem RepL.inv_cons {x : α} {l zs} (h : RepL m (x :: l) zs) : ∃ cs xs, zs = cs ++ xs ∧ Rep.cells m x cs ∧ RepL m l xs := by
  cases h with
  | cons h hr => exact ⟨_, _, rfl, h, hr⟩

/-- a slice that reads as a list, in immutable memory -/
def Sl (m : Mem) (a : Option Addr) (l : List α) : Prop := ∃ xs, RepL m l xs ∧ (l = [] ∨ ∃ b off, a = some ⟨b, off, none⟩ ∧ Ats m [] b off xs)

theorem Ats.h {b o l} (h : Ats m [] b o l) : Ats m H b o l := fun j v hj => by
  obtain ⟨c, e, f, h1, h2⟩ := h j v hj
  exact ⟨c, e, f, .inl (h1.resolve_right (by simp)), h2⟩
theorem Ats.le {b o l} (hle : Mem.le m m') (h : Ats m [] b o l) : Ats m' [] b o l := fun j v hj => (h j v hj).le hle _
theorem Ats.at {b o l j v} (h : Ats m [] b o l) (hv : l[j]? = some v) : At m H b (o + j) v := h.h j v hv
theorem Ats.at0 {b o l v} (h : Ats m [] b o l) (hv : l[0]? = some v) : At m H b o v := h.h 0 v hv

theorem Sl.nil {a} : Sl m a ([] : List α) := ⟨[], .nil, .inl rfl⟩
theorem Sl.mono {a} {l : List α} (hle : Mem.le m m') (h : Sl m a l) : Sl m' a l := by
  obtain ⟨xs, h1, h2⟩ := h
  exact ⟨xs, h1.mono hle, h2.imp id fun ⟨b, o, e, h⟩ => ⟨b, o, e, h.le hle⟩⟩
theorem Sl.get {a} {l : List α} (h : Sl m a l) (i : Nat) (hi : i < l.length) : ∃ b o cs, a = some ⟨b, o, none⟩ ∧ Rep.cells m l[i] cs ∧ Ats m [] b (o + i * Rep.sz α) cs := by
  obtain ⟨xs, h1, h2⟩ := h
  obtain ⟨cs, h3, h4⟩ := h1.get i hi
  rcases h2 with rfl | ⟨b, o, e, h2⟩
  · simp at hi
  · exact ⟨b, o, cs, e, h3, fun j v hj => by rw [Nat.add_assoc]; exact h2 _ _ (h4 j v hj)⟩
theorem Sl.ats {a} {l : List α} (h : Sl m a l) : ∃ xs, RepL m l xs ∧ (l = [] ∨ ∃ b off, a = some ⟨b, off, none⟩ ∧ Ats m [] b off xs) := h
theorem Sl.take {a} {l : List α} (h : Sl m a l) (k : Nat) : Sl m a (l.take k) := by
  obtain ⟨xs, h1, h2⟩ := h
  rw [← List.take_append_drop k l] at h1
  obtain ⟨ys, zs, rfl, h3, h4⟩ := h1.inv_append
  refine ⟨ys, h3, ?_⟩
  rcases h2 with rfl | ⟨b, o, e, h2⟩
  · exact .inl (by simp)
  · exact .inr ⟨b, o, e, fun j v hj => h2 j v (by rw [List.getElem?_append_left (List.getElem?_eq_some_iff.1 hj).1]; exact hj)⟩
theorem Sl.drop {b o} {l : List α} (h : Sl m (some ⟨b, o, none⟩) l) (k : Nat) (hk : k ≤ l.length) : Sl m (some ⟨b, o + k * Rep.sz α, none⟩) (l.drop k) := by
  obtain ⟨xs, h1, h2⟩ := h
  rw [← List.take_append_drop k l] at h1
  obtain ⟨ys, zs, rfl, h3, h4⟩ := h1.inv_append
  refine ⟨zs, h4, ?_⟩
  rcases h2 with rfl | ⟨b', o', e, h2⟩
  · exact .inl (by simp)
  · cases e
    refine .inr ⟨b, _, rfl, fun j v hj => ?_⟩
    have hl := h3.len
    rw [List.length_take, Nat.min_eq_left hk] at hl
    have := h2 (k * Rep.sz α + j) v (by rw [List.getElem?_append_right (by omega), hl]; rw [show k * Rep.sz α + j - k * Rep.sz α = j by omega]; exact hj)
    rw [Nat.add_assoc]; exact this

/-- a slice that is owned, by what it reads as -/
def OwnT (E : TypeId) (m : Mem) (a : Option Addr) (n cap : Nat) (l : List α) (hs : Hp) : Prop := n = l.length ∧ ∃ xs, RepL m l xs ∧ OwnS E (Rep.sz α) a n cap xs hs

theorem OwnT.nil {E} : OwnT E m none 0 0 ([] : List α) [] := ⟨rfl, [], .nil, OwnS.nil E _⟩
theorem OwnT.mono {E a n cap hs} {l : List α} (hle : Mem.le m m') (h : OwnT E m a n cap l hs) : OwnT E m' a n cap l hs := by
  obtain ⟨e, xs, h1, h2⟩ := h
  exact ⟨e, xs, h1.mono hle, h2⟩
theorem OwnT.box {E b n cur} {l : List α} (hn : n = l.length) (h : RepL m l cur) : OwnT E m (some ⟨b, 0, none⟩) n n l [(b, WL.box E cur)] :=
  ⟨hn, cur, h, OwnS.box (by rw [h.len, hn])⟩

theorem Ok.freezeS {s w F E a n cap hs} {l : List α} (h : Ok s w m (hs ++ F)) (ho : OwnT E m a n cap l hs) : ∃ m', Mem.le m m' ∧ Ok s w m' F ∧ Sl m' a l := by
  obtain ⟨e, xs, h1, h2, h3⟩ := ho
  rcases h3 with ⟨rfl, rfl, rfl, rfl⟩ | ⟨b, cur, rfl, rfl, hkc, hcl, htk⟩
  · refine ⟨m, Mem.le.refl m, h, xs, h1, .inl (List.eq_nil_of_length_eq_zero e.symm)⟩
  · have hle : Mem.le m (m.add b (WL.box E cur)) := Ok.le_add (s := s) (w := w) h
    refine ⟨m.add b (WL.box E cur), hle, Ok.freeze h, xs, h1.mono hle, .inr ⟨b, 0, rfl, fun j v hj => ?_⟩⟩
    refine At.imm (Mem.add_self m b _) ?_
    rw [← htk, List.getElem?_take] at hj
    split at hj
    · simpa using hj
    · cases hj
end

section
variable {α : Type} [Rep α] {P : Program} {s : Strm} {n : Nat} {Q : Exit → Env → Mem → Hp → Prop} {env : Env} {m : Mem} {H : Hp} {ops : Array Oper} {rest : List Oper}
variable {d : Option Nat} {ty : TypeId} {pos : String} {aft : Array Edge} {gd : Option (Nat × Bool)}

theorem RW.freeze {E a k cap hs F} {l : List α} (ho : OwnT E m a k cap l hs) (hH : H.Perm (hs ++ F)) (h : ∀ m', Mem.le m m' → Sl m' a l → RW P s n ops Q rest env m' F) : RW P s n ops Q rest env m H :=
  fun x w hf hok => by
    obtain ⟨m', h1, h2, h3⟩ := Ok.freezeS (hok.perm hH) ho
    exact h m' h1 h3 x w hf h2
theorem CW.freeze {E a k cap hs F c} {l : List α} (ho : OwnT E m a k cap l hs) (hH : H.Perm (hs ++ F)) (h : ∀ m', Mem.le m m' → Sl m' a l → CW P s n c Q env m' F) : CW P s n c Q env m H :=
  fun x w hf hok => by
    obtain ⟨m', h1, h2, h3⟩ := Ok.freezeS (hok.perm hH) ho
    exact h m' h1 h3 x w hf h2
/-- one block becomes immutable -/
theorem RW.freeze1 {b o F} (hH : H.Perm ((b, o) :: F)) (h : ∀ m', Mem.le m m' → m' b = some o → RW P s n ops Q rest env m' F) : RW P s n ops Q rest env m H :=
  fun x w hf hok => h _ (Ok.le_add (hok.perm hH)) (Mem.add_self m b o) x w hf (hok.perm hH).freeze
theorem CW.freeze1 {b o F c} (hH : H.Perm ((b, o) :: F)) (h : ∀ m', Mem.le m m' → m' b = some o → CW P s n c Q env m' F) : CW P s n c Q env m H :=
  fun x w hf hok => h _ (Ok.le_add (hok.perm hH)) (Mem.add_self m b o) x w hf (hok.perm hH).freeze
theorem RW.drop {L F} (hH : H.Perm (L ++ F)) (h : RW P s n ops Q rest env m F) : RW P s n ops Q rest env m H := fun x w hf hok => h x w hf (Ok.drop L (hok.perm hH))
theorem CW.drop {L F c} (hH : H.Perm (L ++ F)) (h : CW P s n c Q env m F) : CW P s n c Q env m H := fun x w hf hok => h x w hf (Ok.drop L (hok.perm hH))

/-- xs[i] of a slice that reads as a list: the address -/
theorem RW_index {T E sz by_ x y a0 c k i dd} {l : List α} [hsl : SlT P T E sz by_] (hd : Nat.blt dd n = true) (hg : GOk ops env gd) (hsz : sz = Rep.sz α) (hs : Sl m a0 l) (hx : ev env x = some (.slice a0 l.length c)) (hy : ev env y = some (.int k i)) (hi : 0 ≤ i ∧ i < l.length)
    (h : ∀ b o cs, Rep.cells m (l[i.toNat]'(by omega)) cs → Ats m [] b o cs → RW P s n ops Q rest ((dd, .pointer (some ⟨b, o, none⟩)) :: env) m H) :
    RW P s n ops Q (⟨some dd, .indexAddr T x y, ty, pos, aft, gd⟩ :: rest) env m H := by
  obtain ⟨b, o, cs, e, h1, h2⟩ := hs.get i.toNat (by omega)
  subst e
  subst hsz
  exact RW_same hd hg (T_indexAddr hx hy hi) (h b _ cs h1 h2)
end
/-- a place of an owned slice -/
theorem OwnT.at {α : Type} [Rep α] {E m a n cap hs} {l : List α} (h : OwnT E m a n cap l hs) (i : Nat) (hi : i < l.length) :
    ∃ b cur cs, a = some ⟨b, 0, none⟩ ∧ hs = [(b, WL.box E cur)] ∧ Rep.cells m l[i] cs ∧ (i + 1) * Rep.sz α ≤ cur.length ∧ ∀ H, (b, WL.box E cur) ∈ H → Ats m H b (i * Rep.sz α) cs := by
  obtain ⟨e, xs, h1, h2, h3⟩ := h
  obtain ⟨cs, h4, h5⟩ := h1.get i hi
  rcases h3 with ⟨rfl, rfl, rfl, rfl⟩ | ⟨b, cur, rfl, rfl, hkc, hcl, htk⟩
  · omega
  · have hle : (i + 1) * Rep.sz α ≤ cap * Rep.sz α := Nat.mul_le_mul_right _ (by omega)
    refine ⟨b, cur, cs, rfl, rfl, h4, by omega, fun H hH j v hj => At.own hH ?_⟩
    have := h5 j v hj
    rw [← htk, List.getElem?_take] at this
    split at this
    · exact this
    · cases this

/-- a place of an owned slice, to be set -/
theorem OwnT.set {α : Type} [Rep α] {E m a n cap hs} {l : List α} (h : OwnT E m a n cap l hs) (i : Nat) (hi : i < l.length) :
    ∃ b cur, a = some ⟨b, 0, none⟩ ∧ hs = [(b, WL.box E cur)] ∧ (i + 1) * Rep.sz α ≤ cur.length ∧ ∀ m' (x : α) cs, Mem.le m m' → Rep.cells m' x cs →
      OwnT E m' a n cap (l.set i x) [(b, WL.box E (setP cur (i * Rep.sz α) cs))] := by
  obtain ⟨en, xs, hx1, hx2, hx3⟩ := h
  subst en
  rcases hx3 with ⟨rfl, e, rfl, rfl⟩ | ⟨b, cur, rfl, rfl, hkc, hcl, htk⟩
  · omega
  · have hle0 : (i + 1) * Rep.sz α ≤ cap * Rep.sz α := Nat.mul_le_mul_right _ (by omega)
    refine ⟨b, cur, rfl, rfl, by omega, fun m' x cs hle hc => ⟨by simp, ?_⟩⟩
    have hlc : cs.length = Rep.sz α := Rep.len hc
    obtain ⟨ys, zs, h6, h7, h8, c0, h9, h10⟩ : ∃ ys zs, RepL m (l.take i) ys ∧ RepL m (l.drop (i + 1)) zs ∧ ys.length = i * Rep.sz α ∧ ∃ c0, RepL m [l[i]] c0 ∧ xs = ys ++ (c0 ++ zs) := by
      have e0 : l = l.take i ++ ([l[i]] ++ l.drop (i + 1)) := by simp
      rw [e0] at hx1
      obtain ⟨ys, r, rfl, h6, h7⟩ := hx1.inv_append
      obtain ⟨c0, zs, rfl, h8, h9⟩ := h7.inv_append
      refine ⟨ys, zs, h6, h9, ?_, c0, h8, rfl⟩
      rw [h6.len, List.length_take, Nat.min_eq_left (by omega)]
    have hl0 : c0.length = Rep.sz α := by have := h9.len; simpa using this
    have hnew : RepL m' (l.set i x) (ys ++ (cs ++ zs)) := by
      rw [List.set_eq_take_append_cons_drop, if_pos hi]
      exact (h6.mono hle).append (.cons hc (h7.mono hle))
    have hzl : zs.length = l.length * Rep.sz α - (i * Rep.sz α + Rep.sz α) := by
      rw [h7.len, List.length_drop, Nat.sub_mul, Nat.succ_mul]
    have hb1 : i * Rep.sz α + Rep.sz α ≤ l.length * Rep.sz α := by rw [← Nat.succ_mul]; exact Nat.mul_le_mul_right _ hi
    have hb2 : l.length * Rep.sz α ≤ cap * Rep.sz α := Nat.mul_le_mul_right _ hkc
    refine ⟨_, hnew, by rw [hnew.len, List.length_set], .inr ⟨b, _, rfl, rfl, hkc, ?_, ?_⟩⟩
    · simp only [setP, List.length_append, List.length_take, List.length_drop]
      omega
    · have e1 : cur.take (i * Rep.sz α) = ys := by
        have : (cur.take (l.length * Rep.sz α)).take (i * Rep.sz α) = ys := by rw [htk, h10, ← h8]; simp
        rw [List.take_take] at this
        rwa [Nat.min_eq_left (by omega)] at this
      have e2 : (cur.drop (i * Rep.sz α + Rep.sz α)).take zs.length = zs := by
        have hx : (cur.take (l.length * Rep.sz α)).drop (i * Rep.sz α + Rep.sz α) = zs := by
          rw [htk, h10, show i * Rep.sz α + Rep.sz α = (ys ++ c0).length by simp [h8, hl0], ← List.append_assoc, List.drop_left]
        rw [List.drop_take] at hx
        rw [hzl]; exact hx
      unfold setP
      rw [hlc, e1, List.append_assoc, show l.length * Rep.sz α = ys.length + (Rep.sz α + zs.length) by rw [h8]; omega, List.take_length_add_append]
      congr 1
      rw [show Rep.sz α + zs.length = cs.length + zs.length by rw [hlc], List.take_length_add_append, e2]

/-- a slice value that reads as a list -/
def SlV {α : Type} [Rep α] (m : Mem) (v : Value) (l : List α) : Prop := ∃ a cap, v = .slice a l.length cap ∧ l.length ≤ cap ∧ Sl m a l
theorem SlV.mono {α : Type} [Rep α] {m m' : Mem} {v} {l : List α} (hle : Mem.le m m') (h : SlV m v l) : SlV m' v l := by
  obtain ⟨a, cap, e, h1, h2⟩ := h
  exact ⟨a, cap, e, h1, h2.mono hle⟩

/-- an owned copy of a list -/
def Cop {α : Type} [Rep α] (E : TypeId) (m : Mem) (v : Value) (l : List α) (hs : Hp) : Prop := ∃ a cap, v = .slice a l.length cap ∧ l.length ≤ cap ∧ OwnT E m a l.length cap l hs

theorem OwnT.cap {α : Type} [Rep α] {E m a n cap hs} {l : List α} (h : OwnT E m a n cap l hs) : n ≤ cap := by
  obtain ⟨_, xs, _, _, ⟨_, rfl, rfl, _⟩ | ⟨b, cur, _, _, h, _⟩⟩ := h
  · exact Nat.le_refl _
  · exact h
theorem Cop.mono {α : Type} [Rep α] {E : TypeId} {m m' : Mem} {v hs} {l : List α} (hle : Mem.le m m') (h : Cop E m v l hs) : Cop E m' v l hs := by
  obtain ⟨a, cap, e, h1, h2⟩ := h
  exact ⟨a, cap, e, h1, h2.mono hle⟩


/-! ## One list of blocks is another in another order -/
section
variable {β : Type} {x y : β} {H F L hs : List β}
theorem pull1_here : (x :: H).Perm (x :: H) := .refl _
theorem pull1_skip (h : H.Perm (x :: F)) : (y :: H).Perm (x :: y :: F) := (h.cons y).trans (.swap _ _ _)
theorem pull1_app (h : H.Perm (x :: F)) : (L ++ H).Perm (x :: (L ++ F)) := (h.append_left L).trans List.perm_middle
theorem pull_here : (hs ++ H).Perm (hs ++ H) := .refl _
theorem pull_end : hs.Perm (hs ++ []) := by simp
theorem pull_skip (h : H.Perm (hs ++ F)) : (y :: H).Perm (hs ++ y :: F) := (h.cons y).trans List.perm_middle.symm
theorem pull_app (h : H.Perm (hs ++ F)) : (L ++ H).Perm (hs ++ (L ++ F)) := by
  refine (h.append_left L).trans ?_
  rw [← List.append_assoc, ← List.append_assoc]
  exact List.perm_append_comm.append_right F
end
/-- a list that can be read, owned or not -/
def RdV {α : Type} [Rep α] (m : Mem) (H : Hp) (v : Value) (l : List α) : Prop := ∃ a cap, v = .slice a l.length cap ∧ l.length ≤ cap ∧ ∀ i (hi : i < l.length), ∃ b o cs, a = some ⟨b, o, none⟩ ∧ Rep.cells m l[i] cs ∧ Ats m H b (o + i * Rep.sz α) cs
theorem SlV.rd {α : Type} [Rep α] {m : Mem} {v} {l : List α} (h : SlV m v l) (H : Hp) : RdV m H v l := by
  obtain ⟨a, cap, e, hc, hs⟩ := h
  refine ⟨a, cap, e, hc, fun i hi => ?_⟩
  obtain ⟨b, o, cs, e, h1, h2⟩ := hs.get i hi
  exact ⟨b, o, cs, e, h1, h2.h⟩
theorem OwnT.rd {α : Type} [Rep α] {E m a cap hs} {l : List α} {H : Hp} (h : OwnT E m a l.length cap l hs) (hH : ∀ x ∈ hs, x ∈ H) : RdV m H (.slice a l.length cap) l := by
  refine ⟨a, cap, rfl, h.cap, fun i hi => ?_⟩
  obtain ⟨b, cur, cs, rfl, rfl, h1, h2, h3⟩ := h.at i hi
  exact ⟨b, 0, cs, rfl, h1, by simpa using h3 H (hH _ (.head _))⟩
section
variable {P : Program} {s : Strm} {n : Nat} {ops : Array Oper} {Q : Exit → Env → Mem → Hp → Prop} {rest : List Oper} {env : Env} {m : Mem} {H : Hp} {ty : TypeId} {pos : String} {aft : Array Edge} {gd : Option (Nat × Bool)}
theorem RW_indexH {α : Type} [Rep α] {T E sz by_ x y a0 c k i dd} {l : List α} [hsl : SlT P T E sz by_] (hd : Nat.blt dd n = true) (hg : GOk ops env gd) (hsz : sz = Rep.sz α) (hs : RdV m H (.slice a0 l.length c) l) (hx : ev env x = some (.slice a0 l.length c)) (hy : ev env y = some (.int k i)) (hi : 0 ≤ i ∧ i < l.length)
    (h : ∀ b o cs, Rep.cells m (l[i.toNat]'(by omega)) cs → Ats m H b o cs → RW P s n ops Q rest ((dd, .pointer (some ⟨b, o, none⟩)) :: env) m H) :
    RW P s n ops Q (⟨some dd, .indexAddr T x y, ty, pos, aft, gd⟩ :: rest) env m H := by
  obtain ⟨a', c', e0, hc', hrd⟩ := hs
  cases e0
  obtain ⟨b, o, cs, e, h1, h2⟩ := hrd i.toNat (by omega)
  subst e
  subst hsz
  exact RW_same hd hg (T_indexAddr hx hy hi) (h b _ cs h1 h2)
end
end Go.WL
