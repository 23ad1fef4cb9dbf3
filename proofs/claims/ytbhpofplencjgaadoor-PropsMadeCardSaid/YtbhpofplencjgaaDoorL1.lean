/- The core of a small logic for walking Go code: a frame known by a list of slots, memory known as an immutable part and a list of owned blocks. Conditions: none. -/
import Derived.WalkKit
namespace Go.WL
open Go

abbrev Env := List (Nat × Value)
abbrev Hp := List (Nat × Obj)
abbrev Mem := Nat → Option Obj

def look : Env → Nat → Option Value
  | [], _ => none
  | (k, v) :: r, i => bif Nat.beq k i then some v else look r i

def ev (env : Env) : Operand → Option Value
  | .tmp t => look env t
  | .const v => some v
  | .global g => some (.pointer (some ⟨g, 0, none⟩))
  | .func f => some (.func (.func f) #[] #[])

structure Fr (n : Nat) (a : Act) (env : Env) : Prop where
  defers : a.defers = []
  size : a.tmps.size = n
  get : ∀ i v, look env i = some v → a.tmps[i]? = some v

theorem Fr.ev {n a env x v} (h : Fr n a env) (hx : WL.ev env x = some v) : a.eval x = v := by
  cases x with
  | tmp t => have := h.get t v hx; simp [Act.eval, this]
  | const c => exact Option.some.inj hx
  | global g => exact Option.some.inj hx
  | func f => exact Option.some.inj hx

theorem look_cons_self (env : Env) (d : Nat) (v : Value) : look ((d, v) :: env) d = some v := by simp [look]
theorem look_cons_ne (env : Env) {d i : Nat} (v : Value) (h : d ≠ i) : look ((d, v) :: env) i = look env i := by
  have : Nat.beq d i = false := by
    cases e : Nat.beq d i with
    | false => rfl
    | true => exact absurd (Nat.eq_of_beq_eq_true e) h
  simp [look, this]

theorem Fr.put {n a env d} (h : Fr n a env) (hd : d < n) (v : Value) : Fr n (a.put (some d) v) ((d, v) :: env) := by
  refine ⟨h.defers, by simp [Act.put, h.size], fun i u hi => ?_⟩
  by_cases e : d = i
  · subst e
    rw [look_cons_self] at hi
    cases hi
    simp [Act.put, h.size, hd]
  · rw [look_cons_ne _ _ e] at hi
    have := h.get i u hi
    simp [Act.put, Array.getElem?_setIfInBounds_ne e, this]

theorem Fr.put_none {n a env} (h : Fr n a env) (v : Value) : Fr n (a.put none v) env := h

def Mem.le (m m' : Mem) : Prop := ∀ b o, m b = some o → m' b = some o
theorem Mem.le.refl (m : Mem) : Mem.le m m := fun _ _ h => h
theorem Mem.le.trans {a b c : Mem} (h : Mem.le a b) (k : Mem.le b c) : Mem.le a c := fun x o hx => k x o (h x o hx)

structure Strm where
  os : Os
  tape : Nat → Question → Nat
  output : Array (Nat × ByteArray)
  base : Mem
  size : Nat

structure Ok (s : Strm) (w : World) (m : Mem) (H : Hp) : Prop where
  os : w.os = s.os
  tape : w.tape = s.tape
  output : w.output = s.output
  size : s.size ≤ w.heap.size
  base : Mem.le s.base m
  imm : ∀ b o, m b = some o → w.heap[b]? = some o
  own : ∀ p ∈ H, w.heap[p.1]? = some p.2
  sep : ∀ p ∈ H, m p.1 = none
  nd : (H.map (·.1)).Nodup

theorem Ok.rebase {s w m H} (h : Ok s w m H) : Ok ⟨s.os, s.tape, s.output, m, s.size⟩ w m H :=
  ⟨h.os, h.tape, h.output, h.size, Mem.le.refl m, h.imm, h.own, h.sep, h.nd⟩

theorem Ok.perm {s w m H H'} (h : Ok s w m H) (hp : H.Perm H') : Ok s w m H' :=
  ⟨h.os, h.tape, h.output, h.size, h.base, h.imm, fun p hp' => h.own p (hp.mem_iff.2 hp'), fun p hp' => h.sep p (hp.mem_iff.2 hp'), (hp.map _).nodup_iff.1 h.nd⟩

theorem Ok.drop {s w m H} (L : Hp) (h : Ok s w m (L ++ H)) : Ok s w m H :=
  ⟨h.os, h.tape, h.output, h.size, h.base, h.imm, fun p hp => h.own p (by simp [hp]), fun p hp => h.sep p (by simp [hp]), by have := h.nd; rw [List.map_append] at this; exact (List.nodup_append.1 this).2.1⟩

theorem Ok.sub {s w m H H'} (h : Ok s w m H) (hs : H'.Sublist H) : Ok s w m H' :=
  ⟨h.os, h.tape, h.output, h.size, h.base, h.imm, fun p hp => h.own p (hs.subset hp), fun p hp => h.sep p (hs.subset hp), h.nd.sublist (hs.map _)⟩

theorem Ok.drew {s w m H} (h : Ok s w m H) : Ok s w.drew m H := ⟨h.os, h.tape, h.output, h.size, h.base, h.imm, h.own, h.sep, h.nd⟩

theorem Ok.lt {s w m H} (h : Ok s w m H) {p} (hp : p ∈ H) : p.1 < w.heap.size := (Array.getElem?_eq_some_iff.1 (h.own p hp)).1
theorem Ok.imm_lt {s w m H} (h : Ok s w m H) {b o} (hp : m b = some o) : b < w.heap.size := (Array.getElem?_eq_some_iff.1 (h.imm b o hp)).1

theorem Ok.alloc {s w m H} (h : Ok s w m H) (o : Obj) : Ok s (w.alloc o) m ((w.heap.size, o) :: H) := by
  have hm : m w.heap.size = none := by
    cases e : m w.heap.size with
    | none => rfl
    | some x => have := h.imm_lt e; omega
  refine ⟨h.os, h.tape, h.output, by have := h.size; simp; omega, h.base, fun b x hb => ?_, fun p hp => ?_, fun p hp => ?_, ?_⟩
  · rw [World.alloc, Array.getElem?_push, if_neg (by have := h.imm_lt hb; omega)]; exact h.imm b x hb
  · rcases List.mem_cons.1 hp with rfl | hp
    · exact Array.getElem?_push_size
    · rw [World.alloc, Array.getElem?_push, if_neg (by have := h.lt hp; omega)]; exact h.own p hp
  · rcases List.mem_cons.1 hp with rfl | hp
    · exact hm
    · exact h.sep p hp
  · rw [List.map_cons, List.nodup_cons]
    refine ⟨fun hh => ?_, h.nd⟩
    obtain ⟨p, hp, e⟩ := List.mem_map.1 hh
    have := h.lt hp
    omega

/-- a block that is owned becomes immutable -/
def Mem.add (m : Mem) (b : Nat) (o : Obj) : Mem := fun k => if k = b then some o else m k

theorem Mem.add_self (m : Mem) (b : Nat) (o : Obj) : m.add b o b = some o := by simp [Mem.add]
theorem Ok.le_add {s w m H b o} (h : Ok s w m ((b, o) :: H)) : Mem.le m (m.add b o) := by
  intro k x hk
  have := h.sep (b, o) (by simp)
  unfold Mem.add
  split
  · subst_vars; simp [hk] at this
  · exact hk

theorem Ok.freeze {s w m H b o} (h : Ok s w m ((b, o) :: H)) : Ok s w (m.add b o) H := by
  refine ⟨h.os, h.tape, h.output, h.size, h.base.trans h.le_add, fun k x hk => ?_, fun p hp => h.own p (by simp [hp]), fun p hp => ?_, ?_⟩
  · unfold Mem.add at hk
    split at hk
    · rename_i e; cases hk; rw [e]; exact h.own (b, o) (by simp)
    · exact h.imm k x hk
  · have hn := h.nd
    rw [List.map_cons, List.nodup_cons] at hn
    unfold Mem.add
    rw [if_neg]
    · exact h.sep p (by simp [hp])
    · intro e
      exact hn.1 (by rw [← e]; exact List.mem_map_of_mem (f := (·.1)) hp)
  · have hn := h.nd
    rw [List.map_cons, List.nodup_cons] at hn
    exact hn.2

/-- the world turned at one owned block -/
theorem Ok.upd {s w w' m H b o o'} (h : Ok s w m ((b, o) :: H)) (hos : w'.os = w.os) (ht : w'.tape = w.tape) (ho : w'.output = w.output) (hs : w'.heap.size = w.heap.size)
    (hb : w'.heap[b]? = some o') (hk : ∀ k, k ≠ b → w'.heap[k]? = w.heap[k]?) : Ok s w' m ((b, o') :: H) := by
  have hn := h.nd
  rw [List.map_cons, List.nodup_cons] at hn
  have hsep := h.sep (b, o) (by simp)
  refine ⟨hos.trans h.os, ht.trans h.tape, ho.trans h.output, by rw [hs]; exact h.size, h.base, fun k x hkx => ?_, fun p hp => ?_, fun p hp => ?_, ?_⟩
  · rw [hk k (by rintro rfl; rw [hsep] at hkx; cases hkx)]; exact h.imm k x hkx
  · rcases List.mem_cons.1 hp with rfl | hp
    · exact hb
    · rw [hk p.1 (by rintro e; exact hn.1 (by rw [← e]; exact List.mem_map_of_mem (f := (·.1)) hp))]
      exact h.own p (by simp [hp])
  · rcases List.mem_cons.1 hp with rfl | hp
    · exact hsep
    · exact h.sep p (by simp [hp])
  · rw [List.map_cons, List.nodup_cons]; exact hn

/-- the world with new blocks, and one owned block perhaps turned: 'Below' -/
theorem Ok.below {s w w' m H} (h : Ok s w m H) (hb : Go.RowKit.Below w.heap.size w w') : Ok s w' m H := by
  refine ⟨hb.os.trans h.os, hb.tape.trans h.tape, hb.output.trans h.output, Nat.le_trans h.size hb.size, h.base, fun k x hk => ?_, fun p hp => ?_, h.sep, h.nd⟩
  · rw [hb.block k (h.imm_lt hk)]; exact h.imm k x hk
  · rw [hb.block p.1 (h.lt hp)]; exact h.own p hp

/-! ## The judgements -/

def Post := Exit → Env → Mem → Hp → Prop

def QW (s : Strm) (n : Nat) (Q : Exit → Env → Mem → Hp → Prop) : Exit → Act → World → Prop :=
  fun e a w => ∃ env m H, Fr n a env ∧ Ok s w m H ∧ Q e env m H

def CW (P : Program) (s : Strm) (n : Nat) (c : Code) (Q : Exit → Env → Mem → Hp → Prop) (env : Env) (m : Mem) (H : Hp) : Prop :=
  ∀ a w, Fr n a env → Ok s w m H → c.wp P (QW s n Q) a w

def RW (P : Program) (s : Strm) (n : Nat) (ops : Array Oper) (Q : Exit → Env → Mem → Hp → Prop) (rest : List Oper) (env : Env) (m : Mem) (H : Hp) : Prop :=
  ∀ a w, Fr n a env → Ok s w m H → wpList P ops (QW s n Q) rest a w

/-- a call: from memory m, H it comes to an ending -/
def FnP (P : Program) (f : FuncId) (args : Array Value) (m : Mem) (H : Hp) (R : Ending → Mem → Hp → Prop) : Prop :=
  ∀ s w, s.base = m → Ok s w m H → Calls P f args w fun e w' => ∃ m' H', Ok s w' m' H' ∧ R e m' H'

theorem FnP.mono {P f args m H R R'} (h : FnP P f args m H R) (hr : ∀ e m' H', Mem.le m m' → R e m' H' → R' e m' H') : FnP P f args m H R' :=
  fun s w hs hok => (h s w hs hok).mono fun _ _ ⟨m', H', ok, r⟩ => ⟨m', H', ok, hr _ _ _ (hs ▸ ok.base) r⟩

theorem FnP.perm {P f args m H H' R} (h : FnP P f args m H R) (hp : H'.Perm H) : FnP P f args m H' R :=
  fun s w hs hok => h s w hs (hok.perm hp)

section
variable {P : Program} {s : Strm} {n : Nat} {Q : Exit → Env → Mem → Hp → Prop} {env : Env} {m : Mem} {H : Hp}

def thenQ (K : Env → Mem → Hp → Prop) (Q : Exit → Env → Mem → Hp → Prop) : Exit → Env → Mem → Hp → Prop
  | .normal, env, m, H => K env m H
  | e, env, m, H => Q e env m H

def blockQ (id : Nat) (Q : Exit → Env → Mem → Hp → Prop) : Exit → Env → Mem → Hp → Prop
  | .exit id', env, m, H => if id' = id then Q .normal env m H else Q (.exit id') env m H
  | e, env, m, H => Q e env m H

theorem thenQ_normal {K : Env → Mem → Hp → Prop} (h : K env m H) : thenQ K Q .normal env m H := h
theorem thenQ_ret {K : Env → Mem → Hp → Prop} (h : Q .ret env m H) : thenQ K Q .ret env m H := h
theorem thenQ_exit {K : Env → Mem → Hp → Prop} {id} (h : Q (.exit id) env m H) : thenQ K Q (.exit id) env m H := h
theorem thenQ_panic {K : Env → Mem → Hp → Prop} {ch} (h : Q (.panic ch) env m H) : thenQ K Q (.panic ch) env m H := h
theorem blockQ_normal {id} (h : Q .normal env m H) : blockQ id Q .normal env m H := h
theorem blockQ_ret {id} (h : Q .ret env m H) : blockQ id Q .ret env m H := h
theorem blockQ_panic {id ch} (h : Q (.panic ch) env m H) : blockQ id Q (.panic ch) env m H := h
theorem blockQ_exit {id} (h : Q .normal env m H) : blockQ id Q (.exit id) env m H := by simp [blockQ, h]
theorem blockQ_exit_ne {id id'} (hne : Nat.beq id' id = false) (h : Q (.exit id') env m H) : blockQ id Q (.exit id') env m H := by
  have : ¬ id' = id := by intro e; subst e; simp at hne
  simp [blockQ, h, this]

theorem CW.mono {c Q'} (h : CW P s n c Q env m H) (hq : ∀ e env' m' H', Q e env' m' H' → Q' e env' m' H') : CW P s n c Q' env m H :=
  fun a w hf hok => wp_mono (h a w hf hok) fun _ _ _ ⟨env', m', H', f, o, q⟩ => ⟨env', m', H', f, o, hq _ _ _ _ q⟩

theorem CW.perm {c H'} (hp : H'.Perm H) (h : CW P s n c Q env m H) : CW P s n c Q env m H' :=
  fun a w hf hok => h a w hf (hok.perm hp)
theorem RW.perm {ops rest H'} (hp : H'.Perm H) (h : RW P s n ops Q rest env m H) : RW P s n ops Q rest env m H' :=
  fun a w hf hok => h a w hf (hok.perm hp)

theorem CW_seq {x y : Code} (h : CW P s n x (thenQ (CW P s n y Q) Q) env m H) : CW P s n (.seq x y) Q env m H := by
  intro a w hf hok
  refine wp_seq (wp_mono (h a w hf hok) fun e a' w' ⟨env', m', H', f, o, q⟩ => ?_)
  cases e with
  | normal => exact q a' w' f o
  | _ => exact ⟨env', m', H', f, o, q⟩

/-- two pieces of code, and what holds between them -/
theorem CW_cut {x y : Code} (I : Env → Mem → Hp → Prop) (h : CW P s n x (thenQ I Q) env m H) (h2 : ∀ env' m' H', I env' m' H' → CW P s n y Q env' m' H') : CW P s n (.seq x y) Q env m H :=
  CW_seq (h.mono fun e env' m' H' q => by cases e <;> first | exact h2 _ _ _ q | exact q)

theorem CW_skip (h : Q .normal env m H) : CW P s n .skip Q env m H := fun _ _ hf hok => wp_skip ⟨_, _, _, hf, hok, h⟩
theorem CW_ret (h : Q .ret env m H) : CW P s n .ret Q env m H := fun _ _ hf hok => wp_ret ⟨_, _, _, hf, hok, h⟩
theorem CW_exit {id} (h : Q (.exit id) env m H) : CW P s n (.exit id) Q env m H := fun _ _ hf hok => wp_exit ⟨_, _, _, hf, hok, h⟩
theorem CW_block {id c} (h : CW P s n c (blockQ id Q) env m H) : CW P s n (.block id c) Q env m H := by
  intro a w hf hok
  refine wp_block (wp_mono (h a w hf hok) fun e a' w' ⟨env', m', H', f, o, q⟩ => ?_)
  cases e with
  | exit id' =>
    simp only [Exit.inBlock, blockQ] at q ⊢
    split <;> simp_all <;> exact ⟨env', m', H', f, o, q⟩
  | _ => exact ⟨env', m', H', f, o, q⟩

theorem CW_region {id : Nat} {l : List Oper} (h : RW P s n l.toArray Q l env m H) : CW P s n (.region id l.toArray false) Q env m H :=
  fun a w hf hok => wp_region_lit (h a w hf hok)

theorem CW_cond {c : Operand} {x y : Code} {t : Bool} (hc : ev env c = some (.bool t)) (ht : t = true → CW P s n x Q env m H) (hf : t = false → CW P s n y Q env m H) :
    CW P s n (.cond c x y) Q env m H := fun a w f o => wp_cond_split (f.ev hc) (fun h => ht h a w f o) (fun h => hf h a w f o)

theorem CW_cond_true {c : Operand} {x y : Code} (hc : ev env c = some (.bool true)) (ht : CW P s n x Q env m H) : CW P s n (.cond c x y) Q env m H :=
  CW_cond hc (fun _ => ht) (fun h => nomatch h)
theorem CW_cond_false {c : Operand} {x y : Code} (hc : ev env c = some (.bool false)) (ht : CW P s n y Q env m H) : CW P s n (.cond c x y) Q env m H :=
  CW_cond hc (fun h => nomatch h) (fun _ => ht)
theorem CW_cond_dec {c : Operand} {x y : Code} {p : Prop} [Decidable p] (hc : ev env c = some (.bool (decide p))) (ht : p → CW P s n x Q env m H) (hf : ¬ p → CW P s n y Q env m H) :
    CW P s n (.cond c x y) Q env m H := CW_cond hc (fun h => ht (of_decide_eq_true h)) (fun h => hf (of_decide_eq_false h))
theorem CW_cond_ndec {c : Operand} {x y : Code} {p : Prop} [Decidable p] (hc : ev env c = some (.bool (!decide p))) (ht : ¬ p → CW P s n x Q env m H) (hf : p → CW P s n y Q env m H) :
    CW P s n (.cond c x y) Q env m H := CW_cond hc (fun h => ht (by simpa using h)) (fun h => hf (by simpa using h))
theorem CW_cond_not {c : Operand} {x y : Code} {b : Bool} (hc : ev env c = some (.bool (!b))) (ht : b = false → CW P s n x Q env m H) (hf : b = true → CW P s n y Q env m H) :
    CW P s n (.cond c x y) Q env m H := CW_cond hc (fun h => ht (by simpa using h)) (fun h => hf (by simpa using h))

theorem bnT : true = !false := rfl
theorem bnF : false = !true := rfl
theorem bnN {α : Type} {a : α} : (some a).isNone = !true := rfl
theorem ilF {α : Type} {a : α} : (some a).isNone = false := rfl
theorem ilT {α : Type} {a : α} : (!(some a).isNone) = true := rfl
theorem inT {α : Type} : (none : Option α).isNone = true := rfl
theorem inF {α : Type} : (!(none : Option α).isNone) = false := rfl
theorem CW_ct {c : Operand} {x y : Code} {b : Bool} (hc : ev env c = some (.bool b)) (hb : b = true) (ht : CW P s n x Q env m H) : CW P s n (.cond c x y) Q env m H :=
  CW_cond hc (fun _ => ht) (fun h => by rw [hb] at h; cases h)
theorem CW_cf {c : Operand} {x y : Code} {b : Bool} (hc : ev env c = some (.bool b)) (hb : b = false) (ht : CW P s n y Q env m H) : CW P s n (.cond c x y) Q env m H :=
  CW_cond hc (fun h => by rw [hb] at h; cases h) (fun _ => ht)

/-- less is known of the frame -/
def Env.sub (env' env : Env) : Prop := ∀ p ∈ env', look env p.1 = some p.2

theorem look_mem {env : Env} {i v} (h : look env i = some v) : (i, v) ∈ env := by
  induction env with
  | nil => simp [look] at h
  | cons p r ih =>
    by_cases e : p.1 = i
    · subst e
      simp [look] at h
      exact List.mem_cons.2 (.inl (by rw [← h]))
    · have : look (p :: r) i = look r i := look_cons_ne r (d := p.1) p.2 e
      rw [this] at h
      exact List.mem_cons.2 (.inr (ih h))

theorem Fr.sub {a env env'} (h : Fr n a env) (hs : Env.sub env' env) : Fr n a env' :=
  ⟨h.defers, h.size, fun i v hi => h.get i v (hs (i, v) (look_mem hi))⟩

theorem Env.sub_nil (env : Env) : Env.sub [] env := fun _ h => nomatch h
theorem Env.sub_cons {env env' : Env} {i v} (h : look env i = some v) (hs : Env.sub env' env) : Env.sub ((i, v) :: env') env := by
  intro p hp
  rcases List.mem_cons.1 hp with rfl | hp
  · exact h
  · exact hs p hp

theorem CW.keep {c} (env' : Env) (hs : Env.sub env' env) (h : CW P s n c Q env' m H) : CW P s n c Q env m H :=
  fun a w hf hok => h a w (hf.sub hs) hok

/-- a loop: a row of states σ, each with what is known of the frame and of memory, and a measure that goes down -/
theorem CW_loop {c : Code} {σ : Type} (E : σ → Env) (M : σ → Mem) (HH : σ → Hp) (I : σ → Prop) (μ : σ → Nat) (x0 : σ)
    (h0 : Env.sub (E x0) env) (hm0 : M x0 = m) (hH0 : H.Perm (HH x0)) (hI : I x0)
    (round : ∀ x, I x → CW P s n c (thenQ (fun env' m' H' => ∃ y, I y ∧ μ y < μ x ∧ Env.sub (E y) env' ∧ M y = m' ∧ ∃ L, H'.Perm (L ++ HH y)) Q) (E x) (M x) (HH x)) :
    CW P s n (.loop c) Q env m H := by
  intro a w hf hok
  subst hm0
  have hf0 := hf.sub h0
  have hok0 := hok.perm hH0
  clear hf hok
  have key : ∀ k x, μ x = k → I x → ∀ a w, Fr n a (E x) → Ok s w (M x) (HH x) → ∀ (b : Frame) (kk : List Item) (cs : List Frame),
      ∃ e a' w', QW s n Q e a' w' ∧ Arrives P (lone (b.at a (.code c :: .inLoop c :: kk)) cs w) b kk cs e a' w' := by
    intro k
    induction k using Nat.strongRecOn with
    | _ k ih =>
      intro x hk hx a w hf hok b kk cs
      obtain ⟨e, a₁, w₁, ⟨env', m', H', f', o', q'⟩, harr⟩ := round x hx a w hf hok b (.inLoop c :: kk) cs
      cases e with
      | normal =>
        obtain ⟨y, hy, hlt, hsub, rfl, L, hperm⟩ := q'
        obtain ⟨e₂, a₂, w₂, hq₂, harr₂⟩ := ih (μ y) (hk ▸ hlt) y rfl hy a₁ w₁ (f'.sub hsub) ((o'.perm hperm).drop L) b kk cs
        exact ⟨e₂, a₂, w₂, hq₂, .of_steps (Steps.trans harr (.one step_inLoop)) harr₂⟩
      | exit id => exact ⟨_, a₁, w₁, ⟨env', m', H', f', o', q'⟩, .pass (x := .inLoop c) rfl (fun _ _ => .inl (by simp)) harr⟩
      | goto l => exact ⟨_, a₁, w₁, ⟨env', m', H', f', o', q'⟩, .pass (x := .inLoop c) rfl (fun _ _ => .inl (by simp)) harr⟩
      | ret => exact ⟨_, a₁, w₁, ⟨env', m', H', f', o', q'⟩, .pass (x := .inLoop c) rfl (fun _ _ => .inl (by simp)) harr⟩
      | panic ch => exact ⟨_, a₁, w₁, ⟨env', m', H', f', o', q'⟩, .pass (x := .inLoop c) rfl (fun _ _ => .inl (by simp)) harr⟩
      | outgrown => exact ⟨_, a₁, w₁, ⟨env', m', H', f', o', q'⟩, .pass (x := .inLoop c) rfl (fun _ _ => .inl (by simp)) harr⟩
  intro b kk cs
  obtain ⟨e, a', w', hq, harr⟩ := key _ x0 rfl hI a w hf0 hok0 b kk cs
  exact ⟨e, a', w', hq, .of_steps (.one step_loop) harr⟩
end
end Go.WL
