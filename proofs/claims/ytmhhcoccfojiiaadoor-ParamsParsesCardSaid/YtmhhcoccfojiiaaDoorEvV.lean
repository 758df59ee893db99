/- What must hold of a seat's tables, as a check that the kernel runs. -/
import Derived.Test.YtmhhcoccfojiiaaDoorEvU
namespace Go.Ev

/-- A type's entry, but for what it is called. -/
def chkTy (c : Cfg) (t : TypeId) (y : Ty) : Bool :=
  (match c.P.info? t with
   | some i => i.size == y.size && i.bytes == y.bytes && (match i.zero with
     | some z => zfits c y.zero z.cells.toList && (y.agg == (match z with | .agg _ => true | _ => false))
     | none => false)
   | none => false) &&
  y.zero.length == y.size && (y.agg == isAggD y.d) &&
  (match y.d with
   | .struct fs => fs.toList.all fun f => (c.ty f.type).isSome
   | .array _ e => (c.ty e).isSome
   | _ => true) &&
  (!y.eq || !isAggD y.d || (!c.P.stoodInHeld t && !c.P.eqGuardType c.P.depth t))

theorem tyOk_of {c : Cfg} {t : TypeId} {y : Ty} (hu : c.P.underlying t = some y.d) (h : chkTy c t y = true) : TyOk c t y := by
  unfold chkTy at h
  simp only [Bool.and_eq_true, beq_iff_eq] at h
  obtain ⟨⟨⟨⟨h1, h2⟩, h3⟩, h4⟩, h5⟩ := h
  refine ⟨hu, ?_, h2, h3, fun fs hfs f hf => ?_, fun n e he => ?_, fun he ha => ?_⟩
  · split at h1
    · rename_i i hi
      simp only [Bool.and_eq_true, beq_iff_eq] at h1
      obtain ⟨⟨g1, g2⟩, g3⟩ := h1
      split at g3
      · rename_i z hz
        simp only [Bool.and_eq_true, beq_iff_eq] at g3
        refine ⟨i, hi, g1, g2, z, hz, g3.1, ?_⟩
        rw [g3.2]
        constructor
        · intro h
          split at h
          · exact ⟨_, rfl⟩
          · cases h
        · rintro ⟨l, rfl⟩; rfl
      · cases g3
    · cases h1
  · rw [hfs] at h4
    simp only [List.all_eq_true] at h4
    exact Option.isSome_iff_exists.1 (h4 f (by simpa using hf))
  · rw [he] at h4
    exact Option.isSome_iff_exists.1 h4
  · rw [he, ha] at h5
    simpa using h5

theorem getD_none {α : Type} {l : List (List (Option α))} {n t : Nat} (h : l.length * n ≤ t) (hn : 0 < n) : ((l.getD (t / n) []).getD (t % n) none) = none := by
  have : l.length ≤ t / n := (Nat.le_div_iff_mul_le hn).2 h
  simp [List.getD, List.getElem?_eq_none this]

/-- Of all that a table has. -/
def allT {α : Type} (p : Nat → α → Prop) (l : List (Option α)) : Nat → Prop
  | i => match l with
    | [] => True
    | none :: r => allT p r (i + 1)
    | some x :: r => p i x ∧ allT p r (i + 1)
theorem allT_get {α : Type} {p : Nat → α → Prop} : ∀ (l : List (Option α)) (i k : Nat) (x : α), allT p l i → l.getD k none = some x → p (i + k) x
  | [], i, k, x, _, h => by simp at h
  | none :: r, i, 0, x, _, h => by simp at h
  | some y :: r, i, 0, x, hp, h => by simp at h; subst h; exact hp.1
  | none :: r, i, k + 1, x, hp, h => by
    have := allT_get r (i + 1) k x hp (by simpa using h)
    rwa [show i + (k + 1) = i + 1 + k by omega]
  | some y :: r, i, k + 1, x, hp, h => by
    have := allT_get r (i + 1) k x hp.2 (by simpa using h)
    rwa [show i + (k + 1) = i + 1 + k by omega]
def allTT {α : Type} (p : Nat → α → Prop) (n : Nat) : List (List (Option α)) → Nat → Prop
  | [], _ => True
  | l :: r, i => l.length ≤ n ∧ allT p l (i * n) ∧ allTT p n r (i + 1)
theorem allTT_get {α : Type} {p : Nat → α → Prop} {n : Nat} : ∀ (l : List (List (Option α))) (i q k : Nat) (x : α), allTT p n l i → (l.getD q []).getD k none = some x → p ((i + q) * n + k) x
  | [], i, q, k, x, _, h => by simp at h
  | a :: r, i, 0, k, x, hp, h => by
    have := allT_get a (i * n) k x hp.2.1 (by simpa using h)
    simpa using this
  | a :: r, i, q + 1, k, x, hp, h => by
    have := allTT_get r (i + 1) q k x hp.2.2 (by simpa using h)
    rwa [show i + (q + 1) = i + 1 + q by omega]
theorem table_get {α : Type} {p : Nat → α → Prop} {n : Nat} (hn : 0 < n) {l : List (List (Option α))} (h : allTT p n l 0) {t : Nat} {x : α} (ht : (l.getD (t / n) []).getD (t % n) none = some x) : p t x := by
  have := allTT_get l 0 _ _ x h ht
  rw [Nat.zero_add, Nat.mul_comm, Nat.div_add_mod] at this
  exact this
end Go.Ev
