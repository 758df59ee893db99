/- How a value of the plain reading stands to a value of the model, and what an operation may change. -/
import Derived.Test.YtmhhcoccfojiiaaDoorEvB
import Derived.Tactics
import Derived.Laws.Cells
import Derived.Laws.NewBlocks
namespace Go.Ev

/-- Of each block: so many cells, from the first one on, never change again. -/
abbrev Gh := Nat → Nat

def SRow (w : World) (G : Gh) (b off : Nat) (l : List Value) : Prop :=
  ∀ j x, l[j]? = some x → w.cell? ⟨b, off + j, none⟩ = some x ∧ off + j < G b

def single : Value → Bool
  | .agg _ | .tuple _ => false
  | _ => true

def flat (l : List Value) : List Value := l.flatMap fun x => x.cells.toList

section
variable (c : Cfg)

inductive Rep (w : World) (G : Gh) : List Nat → V → Value → Prop
  | bool {μ} (b) : Rep w G μ (.bool b) (.bool b)
  | int {μ} (k n) : Rep w G μ (.int k n) (.int k n)
  | str {μ} (s) : Rep w G μ (.str s) (.string ⟨s.toArray⟩)
  | lst {μ} (e t) (xs : List V) (a : Option Addr) (cap : Nat) (l : List Value) (hl : l.length = xs.length)
      (hr : ∀ (i : Nat) v x, xs[i]? = some v → l[i]? = some x → Rep w G [] v x)
      (hf : ∀ v ∈ xs, fitsE c e v = true) (hs : ∀ x ∈ l, x.cells.size = tySize c e) (hz : 0 < tySize c e) (hc : xs.length ≤ cap) (ha : a = none → cap = 0)
      (hrow : ∀ p, a = some p → xs ≠ [] → p.spot = none ∧ SRow w G p.block p.off (flat l)) : Rep w G μ (.lst e t xs) (.slice a xs.length cap)
  | agg {μ} (cs : List V) (l : List Value) (hl : l.length = cs.length) (hs : ∀ x ∈ l, single x = true)
      (hr : ∀ (i : Nat) v x, cs[i]? = some v → l[i]? = some x → Rep w G μ v x) : Rep w G μ (.agg cs) (.agg l.toArray)
  | tup {μ} (cs : List V) (l : List Value) (hl : l.length = cs.length)
      (hr : ∀ (i : Nat) v x, cs[i]? = some v → l[i]? = some x → Rep w G μ v x) : Rep w G μ (.tup cs) (.tuple l.toArray)
  | ref {μ} (i off b) (h : μ[i]? = some b) : Rep w G μ (.ref i off) (.pointer (some ⟨b, off, none⟩))
  | mref {μ} (i b) (h : μ[i]? = some b) : Rep w G μ (.mref i) (.map (some b))
  | cpt {μ} (cs : List V) (b off : Nat) (l : List Value) (hl : l.length = cs.length) (hs : ∀ x ∈ l, single x = true)
      (hr : ∀ (i : Nat) v x, cs[i]? = some v → l[i]? = some x → Rep w G [] v x) (hrow : SRow w G b off l) : Rep w G μ (.cpt cs) (.pointer (some ⟨b, off, none⟩))
  | clo {μ} (fn) (first caps : List V) (lf lc : List Value) (hl : lf.length = first.length) (hl' : lc.length = caps.length)
      (hr : ∀ (i : Nat) v x, first[i]? = some v → lf[i]? = some x → Rep w G μ v x)
      (hr' : ∀ (i : Nat) v x, caps[i]? = some v → lc[i]? = some x → Rep w G μ v x) : Rep w G μ (.clo fn first caps) (.func fn lf.toArray lc.toArray)
  | ifc {μ} (t v x) (h : Rep w G μ v x) : Rep w G μ (.ifc t v) (.iface t x)
  | raw {μ} (v) : Rep w G μ (.raw v) v
  | bot {μ} (x) : Rep w G μ .bot x
end

/-- What never changes again has not changed. -/
structure Seal (w : World) (G : Gh) (w' : World) (G' : Gh) : Prop where
  cell : ∀ b o, o < G b → w'.cell? ⟨b, o, none⟩ = w.cell? ⟨b, o, none⟩
  le : ∀ b, G b ≤ G' b

theorem Seal.refl (w : World) (G : Gh) : Seal w G w G := ⟨fun _ _ _ => rfl, fun _ => Nat.le_refl _⟩
theorem Seal.trans {w w' w'' : World} {G G' G'' : Gh} (h : Seal w G w' G') (k : Seal w' G' w'' G'') : Seal w G w'' G'' :=
  ⟨fun b o ho => (k.cell b o (Nat.lt_of_lt_of_le ho (h.le b))).trans (h.cell b o ho), fun b => Nat.le_trans (h.le b) (k.le b)⟩

theorem SRow.mono {w w' : World} {G G' : Gh} {b off : Nat} {l : List Value} (h : SRow w G b off l) (s : Seal w G w' G') : SRow w' G' b off l :=
  fun j x hx => ⟨(s.cell b _ (h j x hx).2).trans (h j x hx).1, Nat.lt_of_lt_of_le (h j x hx).2 (s.le b)⟩

section
variable {c : Cfg}

theorem Rep.mono {w w' : World} {G G' : Gh} {μ : List Nat} {v : V} {x : Value} (h : Rep c w G μ v x) (s : Seal w G w' G') : Rep c w' G' μ v x := by
  induction h with
  | bool b => exact .bool b
  | int k n => exact .int k n
  | str t => exact .str t
  | lst e t xs a cap l hl hr hf hs hz hc ha hrow ih => exact .lst e t xs a cap l hl ih hf hs hz hc ha fun p hp hne => ⟨(hrow p hp hne).1, (hrow p hp hne).2.mono s⟩
  | agg cs l hl hs hr ih => exact .agg cs l hl hs ih
  | tup cs l hl hr ih => exact .tup cs l hl ih
  | ref i off b h => exact .ref i off b h
  | mref i b h => exact .mref i b h
  | cpt cs b off l hl hs hr hrow ih => exact .cpt cs b off l hl hs ih (hrow.mono s)
  | clo fn f cp lf lc hl hl' hr hr' ih ih' => exact .clo fn f cp lf lc hl hl' ih ih'
  | ifc t v x h ih => exact .ifc t v x ih
  | raw v => exact .raw v
  | bot x => exact .bot x

/-- The objects may have other names, if those that are led to keep their blocks. -/
theorem Rep.mapped {w : World} {G : Gh} {μ : List Nat} {v : V} {x : Value} (h : Rep c w G μ v x) : ∀ {μ' : List Nat} (ρ : Nat → Nat),
    (∀ i b, i ∈ v.refs → μ[i]? = some b → μ'[ρ i]? = some b) → Rep c w G μ' (v.ren ρ) x := by
  have getL : ∀ (ρ : Nat → Nat) (cs : List V) (i : Nat) u, (V.renL ρ cs)[i]? = some u → ∃ v, cs[i]? = some v ∧ u = v.ren ρ := by
    intro ρ cs
    induction cs with
    | nil => intro i u h; simp [V.renL] at h
    | cons a r ih =>
      intro i u h
      cases i with
      | zero => simp [V.renL] at h; exact ⟨a, by simp, h.symm⟩
      | succ i => simp [V.renL] at h; obtain ⟨v, hv, hu⟩ := ih i u h; exact ⟨v, by simpa using hv, hu⟩
  have lenL : ∀ (ρ : Nat → Nat) (cs : List V), (V.renL ρ cs).length = cs.length := by
    intro ρ cs; induction cs with
    | nil => rfl
    | cons a r ih => simp [V.renL, ih]
  have memL : ∀ (cs : List V) (i : Nat) (v : V) (k : Nat), cs[i]? = some v → k ∈ v.refs → k ∈ V.refsL cs := by
    intro cs; induction cs with
    | nil => intro i v k h; simp at h
    | cons a r ih =>
      intro i v k h hk
      cases i with
      | zero => simp at h; subst h; simp [V.refsL, hk]
      | succ i => simp at h; simp only [V.refsL, List.mem_append]; exact .inr (ih i v k h hk)
  induction h with
  | bool b => intro μ' ρ _; exact .bool b
  | int k n => intro μ' ρ _; exact .int k n
  | str t => intro μ' ρ _; exact .str t
  | lst e t xs a cap l hl hr hf hs hz hc ha hrow ih => intro μ' ρ _; exact .lst e t xs a cap l hl hr hf hs hz hc ha hrow
  | agg cs l hl hs hr ih =>
    intro μ' ρ hm
    refine .agg _ l (by rw [lenL, hl]) hs fun i u x hu hx => ?_
    obtain ⟨v, hv, rfl⟩ := getL ρ cs i u hu
    exact ih i v x hv hx ρ fun k b hk hb => hm k b (by simp only [V.refs]; exact memL cs i v k hv hk) hb
  | tup cs l hl hr ih =>
    intro μ' ρ hm
    refine .tup _ l (by rw [lenL, hl]) fun i u x hu hx => ?_
    obtain ⟨v, hv, rfl⟩ := getL ρ cs i u hu
    exact ih i v x hv hx ρ fun k b hk hb => hm k b (by simp only [V.refs]; exact memL cs i v k hv hk) hb
  | ref i off b h => intro μ' ρ hm; exact .ref _ off b (hm i b (by simp [V.refs]) h)
  | mref i b h => intro μ' ρ hm; exact .mref _ b (hm i b (by simp [V.refs]) h)
  | cpt cs b off l hl hs hr hrow ih =>
    intro μ' ρ hm
    refine .cpt _ b off l (by rw [lenL, hl]) hs (fun i u x hu hx => ?_) hrow
    obtain ⟨v, hv, rfl⟩ := getL ρ cs i u hu
    exact ih i v x hv hx ρ fun k b hk hb => by simp at hb
  | clo fn f cp lf lc hl hl' hr hr' ih ih' =>
    intro μ' ρ hm
    refine .clo fn _ _ lf lc (by rw [lenL, hl]) (by rw [lenL, hl']) (fun i u x hu hx => ?_) (fun i u x hu hx => ?_)
    · obtain ⟨v, hv, rfl⟩ := getL ρ f i u hu
      exact ih i v x hv hx ρ fun k b hk hb => hm k b (by simp only [V.refs, List.mem_append]; exact .inl (memL f i v k hv hk)) hb
    · obtain ⟨v, hv, rfl⟩ := getL ρ cp i u hu
      exact ih' i v x hv hx ρ fun k b hk hb => hm k b (by simp only [V.refs, List.mem_append]; exact .inr (memL cp i v k hv hk)) hb
  | ifc t v x h ih => intro μ' ρ hm; exact .ifc t _ x (ih ρ fun k b hk hb => hm k b (by simpa [V.refs] using hk) hb)
  | raw v => intro μ' ρ _; exact .raw v
  | bot x => intro μ' ρ _; exact .bot x

theorem ren_id (ρ : Nat → Nat) (v : V) (h : ∀ i ∈ v.refs, ρ i = i) : v.ren ρ = v := by
  have key : ∀ n : Nat, ∀ v : V, SizeOf.sizeOf v ≤ n → (∀ i ∈ v.refs, ρ i = i) → v.ren ρ = v := by
    intro n
    induction n with
    | zero => intro v hv; cases v <;> simp at hv
    | succ n ih =>
      have ihL : ∀ cs : List V, SizeOf.sizeOf cs ≤ n → (∀ i ∈ V.refsL cs, ρ i = i) → V.renL ρ cs = cs := by
        intro cs
        induction cs with
        | nil => intros; rfl
        | cons a r ih2 =>
          intro hs hr
          simp only [List.cons.sizeOf_spec] at hs
          simp only [V.refsL, List.mem_append] at hr
          simp only [V.renL, ih a (by omega) (fun i hi => hr i (.inl hi)), ih2 (by omega) (fun i hi => hr i (.inr hi))]
      intro v hv hr
      cases v with
      | agg cs => simp at hv; simp only [V.ren]; rw [ihL cs (by omega) (by simpa [V.refs] using hr)]
      | tup cs => simp at hv; simp only [V.ren]; rw [ihL cs (by omega) (by simpa [V.refs] using hr)]
      | cpt cs => simp at hv; simp only [V.ren]; rw [ihL cs (by omega) (by simpa [V.refs] using hr)]
      | clo f a b =>
        simp at hv
        simp only [V.refs, List.mem_append] at hr
        simp only [V.ren]
        rw [ihL a (by omega) (fun i hi => hr i (.inl hi)), ihL b (by omega) (fun i hi => hr i (.inr hi))]
      | ifc t u => simp at hv; simp only [V.ren]; rw [ih u (by omega) (by simpa [V.refs] using hr)]
      | ref i o => simp only [V.ren]; rw [hr i (by simp [V.refs])]
      | mref i => simp only [V.ren]; rw [hr i (by simp [V.refs])]
      | _ => rfl
  exact key _ v (Nat.le_refl _) h

theorem Rep.more {w : World} {G : Gh} {μ μ' : List Nat} {v : V} {x : Value} (h : Rep c w G μ v x) (hm : ∀ i b, i ∈ v.refs → μ[i]? = some b → μ'[i]? = some b) : Rep c w G μ' v x := by
  have := h.mapped (μ' := μ') id hm
  rwa [ren_id id v (fun _ _ => rfl)] at this
end
end Go.Ev
