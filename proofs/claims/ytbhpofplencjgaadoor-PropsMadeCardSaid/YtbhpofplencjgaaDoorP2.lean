/- A book of pages in memory, and what reads it. Conditions: none. -/
import Derived.Test.YtbhpofplencjgaaDoorP1
namespace Go.Proofs.YtbhpofplencjgaaDoor
open Go Go.WL

structure PgP where
  b : Nat
instance : Rep PgP where
  sz := 1
  cells _ x cs := cs = [.pointer (some ⟨x.b, 0, none⟩)]
  len h := by subst h; rfl
  mono _ h := h
  one h := by subst h; rfl

inductive PagesAt (m : Mem) : List PgP → List (List Cel) → Hp → Prop
  | nil : PagesAt m [] [] []
  | cons {p pg a cap hs ps pgs hs'} (h : OwnT 31 m a pg.length cap pg hs) (hr : PagesAt m ps pgs hs') :
      PagesAt m (p :: ps) (pg :: pgs) ((p.b, box 90 [.slice a pg.length cap, .int .i64 1]) :: (hs ++ hs'))

theorem PagesAt.mono {m m' ps pgs hs} (hle : Mem.le m m') (h : PagesAt m ps pgs hs) : PagesAt m' ps pgs hs := by
  induction h with
  | nil => exact .nil
  | cons h hr ih => exact .cons (h.mono hle) ih
theorem PagesAt.len {m ps pgs hs} (h : PagesAt m ps pgs hs) : ps.length = pgs.length := by induction h <;> simp_all

theorem PagesAt.at {m ps pgs hs} (h : PagesAt m ps pgs hs) : ∀ (k : Nat) (hk : k < ps.length) (hk' : k < pgs.length),
    ∃ a cap h1, OwnT 31 m a pgs[k].length cap pgs[k] h1 ∧ (ps[k].b, box 90 [.slice a pgs[k].length cap, .int .i64 1]) ∈ hs ∧ (∀ p ∈ h1, p ∈ hs) := by
  induction h with
  | nil => intro k hk; simp at hk
  | @cons p pg a cap hs ps pgs hs' h hr ih =>
    intro k hk hk'
    cases k with
    | zero => exact ⟨a, cap, hs, h, by simp, fun p hp => by simp [hp]⟩
    | succ k =>
      obtain ⟨a', cap', h1, h2, h3, h4⟩ := ih k (by simpa using hk) (by simpa using hk')
      exact ⟨a', cap', h1, by simpa using h2, by simp; exact .inr (.inr h3), fun p hp => by have := h4 p hp; simp [this]⟩

/-- a place of one page; what it holds may be set -/
theorem PagesAt.set {m ps pgs hs} (h : PagesAt m ps pgs hs) : ∀ (k : Nat) (hk : k < ps.length) (hk' : k < pgs.length) (i : Nat) (hi : i < pgs[k].length),
    ∃ b cur cap, (ps[k].b, box 90 [.slice (some ⟨b, 0, none⟩) pgs[k].length cap, .int .i64 1]) ∈ hs ∧ (i + 1) * 5 ≤ cur.length ∧ ∀ m' (c : Cel) cs, Mem.le m m' → Rep.cells m' c cs →
      ∃ h', Upd b (box 31 cur) (box 31 (setP cur (i * 5) cs)) hs h' ∧ PagesAt m' ps (pgs.set k (pgs[k].set i c)) h' := by
  induction h with
  | nil => intro k hk; simp at hk
  | @cons p pg a cap hs ps pgs hs' h hr ih =>
    intro k hk hk' i hi
    cases k with
    | zero =>
      simp only [List.getElem_cons_zero] at hi ⊢
      obtain ⟨b, cur, cs0, e1, e2, h3, h4, h5⟩ := h.at i hi
      subst e1; subst e2
      obtain ⟨_, xs, hx1, hx2, hx3⟩ := h
      rcases hx3 with ⟨e, _⟩ | ⟨b', cur', e, e', hkc, hcl, htk⟩
      · cases e
      · simp only [List.cons.injEq, Prod.mk.injEq, Option.some.injEq, Addr.mk.injEq] at e e'
        obtain ⟨rfl, _⟩ := e
        have ec : cur' = cur := by
          have := e'.1.2
          simpa [WL.box] using this.symm
        subst ec
        have hsz : Rep.sz Cel = 5 := rfl
        rw [hsz] at hcl htk h4
        refine ⟨b, cur', cap, by simp, h4, fun m' c cs hle hc => ?_⟩
        have hlc : cs.length = 5 := Rep.len hc
        have hcut : ∃ ys zs, RepL m (pg.take i) ys ∧ RepL m (pg.drop (i + 1)) zs ∧ ys.length = i * 5 ∧ ∃ c0, RepL m [pg[i]] c0 ∧ xs = ys ++ (c0 ++ zs) := by
          have e0 : pg = pg.take i ++ ([pg[i]] ++ pg.drop (i + 1)) := by simp
          rw [e0] at hx1
          obtain ⟨ys, r, rfl, h6, h7⟩ := hx1.inv_append
          obtain ⟨c0, zs, rfl, h8, h9⟩ := h7.inv_append
          refine ⟨ys, zs, h6, h9, ?_, c0, h8, rfl⟩
          have := h6.len
          rw [this, List.length_take, hsz, Nat.min_eq_left (by omega)]
        obtain ⟨ys, zs, h6, h7, h8, c0, h9, h10⟩ := hcut
        have hl0 : c0.length = 5 := by have := h9.len; simpa [hsz] using this
        have hnew : RepL m' (pg.set i c) (ys ++ (cs ++ zs)) := by
          rw [List.set_eq_take_append_cons_drop, if_pos hi]
          exact (h6.mono hle).append (.cons hc (h7.mono hle))
        have hlen : (setP cur' (i * 5) cs).length = cap * 5 := by
          simp only [setP, List.length_append, List.length_take, List.length_drop]
          omega
        have htk' : (setP cur' (i * 5) cs).take ((pg.set i c).length * 5) = ys ++ (cs ++ zs) := by
          have e1 : cur'.take (i * 5) = ys := by
            have : (cur'.take (pg.length * 5)).take (i * 5) = ys := by rw [htk, h10, ← h8]; simp
            rw [List.take_take] at this
            rwa [Nat.min_eq_left (by omega)] at this
          have e2 : (cur'.drop (i * 5 + 5)).take (zs.length) = zs := by
            have hx : (cur'.take (pg.length * 5)).drop (i * 5 + 5) = zs := by
              rw [htk, h10, show i * 5 + 5 = (ys ++ c0).length by simp [h8, hl0], ← List.append_assoc, List.drop_left]
            rw [List.drop_take] at hx
            have hz : zs.length = pg.length * 5 - (i * 5 + 5) := by
              have := h7.len
              rw [this, List.length_drop, hsz, Nat.sub_mul]
              omega
            rw [hz]; exact hx
          have hz : (pg.set i c).length * 5 = i * 5 + 5 + zs.length := by
            have := h7.len
            rw [this, List.length_drop, hsz, List.length_set, Nat.sub_mul]
            omega
          rw [hz]
          unfold setP
          rw [hlc, e1, List.append_assoc, show i * 5 + 5 + zs.length = (ys).length + (5 + zs.length) by rw [h8]; omega, List.take_length_add_append]
          congr 1
          rw [show 5 + zs.length = cs.length + zs.length by rw [hlc], List.take_length_add_append, e2]
        refine ⟨_, .tail (.appL .head), ?_⟩
        have hO : OwnT 31 m' (some ⟨b, 0, none⟩) (pg.set i c).length cap (pg.set i c) [(b, box 31 (setP cur' (i * 5) cs))] :=
          ⟨rfl, _, hnew, by rw [hnew.len], .inr ⟨b, _, rfl, rfl, by simpa using hkc, hlen, htk'⟩⟩
        have := PagesAt.cons (p := p) hO (hr.mono hle)
        rw [List.length_set] at this
        simpa using this
    | succ k =>
      obtain ⟨b, cur, cap', h1, h2, h3⟩ := ih k (by simpa using hk) (by simpa using hk') i (by simpa using hi)
      refine ⟨b, cur, cap', by simp; exact .inr (.inr h1), h2, fun m' c cs hle hc => ?_⟩
      obtain ⟨h', h4, h5⟩ := h3 m' c cs hle hc
      exact ⟨_, .tail (.app h4), PagesAt.cons (h.mono hle) h5⟩

/-- a list by eights -/
def chunk8 {α : Type} (l : List α) : List (List α) := if _h : l = [] then [] else l.take 8 :: chunk8 (l.drop 8)
termination_by l.length
decreasing_by
  have : 0 < l.length := List.length_pos_iff.2 (by assumption)
  simp; omega

theorem chunk8_nil {α : Type} : chunk8 ([] : List α) = [] := by unfold chunk8; rfl
theorem chunk8_cons {α : Type} (l : List α) (h : l ≠ []) : chunk8 l = l.take 8 :: chunk8 (l.drop 8) := by
  conv => lhs; unfold chunk8
  rw [dif_neg h]
theorem chunk8_len {α : Type} (l : List α) : (chunk8 l).length = (l.length + 7) / 8 := by
  induction l using chunk8.induct with
  | case1 => rw [chunk8_nil]; simp
  | case2 l h ih =>
    rw [chunk8_cons l h, List.length_cons, ih, List.length_drop]
    have : 0 < l.length := List.length_pos_iff.2 (by assumption)
    omega
theorem chunk8_get {α : Type} (l : List α) : ∀ (k : Nat) (hk : k < (chunk8 l).length), (chunk8 l)[k] = (l.drop (8 * k)).take 8 := by
  induction l using chunk8.induct with
  | case1 => intro k hk; rw [chunk8_nil] at hk; simp at hk
  | case2 l h ih =>
    intro k hk
    cases k with
    | zero => simp [chunk8_cons l h]
    | succ k =>
      have := ih k (by rw [chunk8_cons l h] at hk; simpa using hk)
      simp only [chunk8_cons l h, List.getElem_cons_succ, this, List.drop_drop]
      congr 2
      omega
theorem chunk8_ext {α : Type} (l : List α) (pgs : List (List α)) (hl : pgs.length = (l.length + 7) / 8) (h : ∀ (k : Nat) (hk : k < pgs.length), pgs[k] = (l.drop (8 * k)).take 8) : pgs = chunk8 l := by
  apply List.ext_getElem
  · rw [hl, chunk8_len]
  · intro k h1 h2
    rw [h k h1, chunk8_get l k h2]
end Go.Proofs.YtbhpofplencjgaaDoor
