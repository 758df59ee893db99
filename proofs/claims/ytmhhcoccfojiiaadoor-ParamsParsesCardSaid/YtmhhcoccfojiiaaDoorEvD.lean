/- What holds of a state of the plain reading and a state of the model, from the begin of a call on. -/
import Derived.Test.YtmhhcoccfojiiaaDoorEvC
namespace Go.Ev

/-- A list that may be appended to, where there is room behind it. -/
structure Leaf where
  e : TypeId
  a : Addr
  n : Nat
  m : Nat

def leaf1 : V → Value → List Leaf
  | .lst e true _, .slice (some a) n m => if n < m then [⟨e, a, n, m⟩] else []
  | _, _ => []
def zipF (f : V → Value → List Leaf) : List V → List Value → List Leaf
  | v :: vs, x :: xs => f v x ++ zipF f vs xs
  | _, _ => []
def leaf2 : V → Value → List Leaf
  | .agg cs, .agg l => zipF leaf1 cs l.toList
  | v, x => leaf1 v x
def leaf3 : V → Value → List Leaf
  | .tup cs, .tuple l => zipF leaf2 cs l.toList
  | v, x => leaf2 v x
def cellsAt (w : World) (b : Nat) : List Value := match w.heap[b]? with | some (.cells l _ _) => l.toList | _ => []
def leafO (w : World) : List Ob → List Nat → List Leaf
  | o :: os, b :: bs => (match o with | .cells cs => zipF leaf1 cs (cellsAt w b) | _ => []) ++ leafO w os bs
  | _, _ => []
def cnt (b : Nat) (l : List Leaf) : Nat := l.countP fun x => x.a.block == b

theorem cnt_append (b : Nat) (l k : List Leaf) : cnt b (l ++ k) = cnt b l + cnt b k := by simp [cnt]
theorem cnt_nil (b : Nat) : cnt b [] = 0 := rfl
theorem cnt_pos {b : Nat} {l : List Leaf} : 0 < cnt b l ↔ ∃ x ∈ l, x.a.block = b := by simp [cnt, List.countP_pos_iff]

theorem zipF_set (f : V → Value → List Leaf) (b : Nat) (v : V) (x : Value) : ∀ (vs : List V) (xs : List Value) (i : Nat) (v0 : V) (x0 : Value),
    vs[i]? = some v0 → xs[i]? = some x0 → cnt b (zipF f (vs.set i v) (xs.set i x)) + cnt b (f v0 x0) = cnt b (zipF f vs xs) + cnt b (f v x)
  | [], _, i, _, _, h, _ => by simp at h
  | a :: vs, [], i, _, _, _, h => by simp at h
  | a :: vs, y :: xs, 0, v0, x0, h, h' => by
    simp at h h'; subst h; subst h'
    simp only [List.set_cons_zero, zipF, cnt_append]; omega
  | a :: vs, y :: xs, i + 1, v0, x0, h, h' => by
    simp at h h'
    have := zipF_set f b v x vs xs i v0 x0 h h'
    simp only [List.set_cons_succ, zipF, cnt_append]; omega

theorem zipF_set_mem (f : V → Value → List Leaf) {v : V} {x : Value} {l : Leaf} : ∀ (vs : List V) (xs : List Value) (i : Nat),
    l ∈ zipF f (vs.set i v) (xs.set i x) → l ∈ f v x ∨ l ∈ zipF f vs xs
  | [], _, i, h => by simp [zipF] at h
  | a :: vs, [], i, h => by cases i <;> simp [zipF] at h
  | a :: vs, y :: xs, 0, h => by
    simp only [List.set_cons_zero, zipF, List.mem_append] at h ⊢
    rcases h with h | h
    · exact .inl h
    · exact .inr (.inr h)
  | a :: vs, y :: xs, i + 1, h => by
    simp only [List.set_cons_succ, zipF, List.mem_append] at h ⊢
    rcases h with h | h
    · exact .inr (.inl h)
    · rcases zipF_set_mem f vs xs i h with h | h
      · exact .inl h
      · exact .inr (.inr h)

theorem zipF_beyond (f : V → Value → List Leaf) (x : Value) : ∀ (vs : List V) (xs : List Value) (i : Nat), vs.length ≤ i → zipF f vs (xs.set i x) = zipF f vs xs
  | [], xs, i, _ => by simp [zipF]
  | a :: vs, [], i, _ => by simp
  | a :: vs, y :: xs, 0, h => by simp at h
  | a :: vs, y :: xs, i + 1, h => by
    simp at h
    simp only [List.set_cons_succ, zipF, zipF_beyond f x vs xs i h]

section
variable (c : Cfg)

def OkLeaf (w : World) (G : Gh) (l : Leaf) : Prop :=
  l.a.spot = none ∧ ∃ cs elem fr, w.heap[l.a.block]? = some (.cells cs elem fr) ∧ G l.a.block = l.a.off + l.n * tySize c l.e ∧
    l.a.off + l.m * tySize c l.e ≤ cs.size ∧ ∀ o, G l.a.block ≤ o → o < cs.size → ¬(fr.1 ≤ o ∧ o < fr.2)

def ObRep (w : World) (G : Gh) (μ : List Nat) : Ob → Nat → Prop
  | .cells cs, b => ∃ (l : List Value) (elem : TypeId) (fr : Nat × Nat), w.heap[b]? = some (.cells l.toArray elem fr) ∧ (∀ o, o < l.length → ¬(fr.1 ≤ o ∧ o < fr.2)) ∧
      l.length = cs.length ∧ (∀ x ∈ l, single x = true) ∧ ∀ (i : Nat) v x, cs[i]? = some v → l[i]? = some x → Rep c w G μ v x
  | .mp kd vd es, b => (∃ (l : Array MapEntry) (n : Nat), w.heap[b]? = some (.map l n) ∧ l.toList.map (fun e => (e.key, e.val)) = es.map fun p => (p.1.val, p.2.val)) ∧ ∀ p ∈ es, p.1.kind = kd ∧ p.2.kind = vd
  | .sit s p, b => ∃ n : Nat, p = n ∧ w.heap[b]? = some (.stringIter ⟨s.toArray⟩ n)
  | .dead, _ => True

structure Inv (w : World) (G : Gh) (μ : List Nat) (env : List V) (tmps : List Value) (objs : List Ob) : Prop where
  len : env.length ≤ tmps.length
  rep : ∀ (i : Nat) v x, env[i]? = some v → tmps[i]? = some x → Rep c w G μ v x
  olen : objs.length = μ.length
  obs : ∀ (i : Nat) o b, objs[i]? = some o → μ[i]? = some b → ObRep c w G μ o b
  one : ∀ b, cnt b (zipF leaf3 env tmps) + cnt b (leafO w objs μ) + μ.count b ≤ 1
  ok : ∀ l ∈ zipF leaf3 env tmps ++ leafO w objs μ, OkLeaf c w G l
  mine : ∀ b ∈ μ, b < w.heap.size ∧ G b = 0
  none : ∀ b, w.heap.size ≤ b → G b = 0

/-- Where a call began. -/
structure Ent where
  w : World
  G : Gh
  U : Nat → Prop
  μ : List Nat

structure Stp (E : Ent) (w : World) (G : Gh) : Prop where
  size : E.w.heap.size ≤ w.heap.size
  sealed : Seal E.w E.G w G
  keep : ∀ b, b < E.w.heap.size → ¬ E.U b → w.heap[b]? = E.w.heap[b]? ∧ G b = E.G b
  os : w.os = E.w.os
  out : w.output = E.w.output
  tape : w.tape = E.w.tape

structure Sim (E : Ent) (w : World) (G : Gh) (μ : List Nat) (env : List V) (tmps : List Value) (objs : List Ob) : Prop where
  inv : Inv c w G μ env tmps objs
  stp : Stp E w G
  own : ∀ b, b < E.w.heap.size → 0 < cnt b (zipF leaf3 env tmps) + cnt b (leafO w objs μ) + μ.count b → E.U b
  pre : ∃ ν, μ = E.μ ++ ν
end

section
variable {c : Cfg} {E : Ent} {w w' : World} {G G' : Gh} {μ : List Nat} {env : List V} {tmps : List Value} {objs : List Ob}

/-- Nothing that was there has changed: there may be more. -/
structure WExt (w : World) (G : Gh) (w' : World) (G' : Gh) : Prop where
  size : w.heap.size ≤ w'.heap.size
  keep : ∀ b, b < w.heap.size → w'.heap[b]? = w.heap[b]? ∧ G' b = G b
  none : ∀ b, w'.heap.size ≤ b → G' b = 0
  os : w'.os = w.os
  out : w'.output = w.output
  tape : w'.tape = w.tape

theorem cell?_of_heap {w w' : World} {b o : Nat} (h : w'.heap[b]? = w.heap[b]?) : w'.cell? ⟨b, o, none⟩ = w.cell? ⟨b, o, none⟩ := by
  simp only [World.cell?, h]

theorem heap_lt {w : World} {b : Nat} {o : Obj} (h : w.heap[b]? = some o) : b < w.heap.size := (Array.getElem?_eq_some_iff.1 h).1
theorem cell?_lt {w : World} {a : Addr} {x : Value} (h : w.cell? a = some x) : a.block < w.heap.size := by
  unfold World.cell? at h
  split at h
  · rename_i h'; exact heap_lt h'
  · cases h

theorem WExt.sealed (h : WExt w G w' G') (hn : ∀ b, w.heap.size ≤ b → G b = 0) : Seal w G w' G' := by
  refine ⟨fun b o ho => ?_, fun b => ?_⟩
  · by_cases hb : b < w.heap.size
    · exact cell?_of_heap (h.keep b hb).1
    · rw [hn b (Nat.le_of_not_lt hb)] at ho; omega
  · by_cases hb : b < w.heap.size
    · exact Nat.le_of_eq (h.keep b hb).2.symm
    · rw [hn b (Nat.le_of_not_lt hb)]; omega

theorem OkLeaf.lt {l : Leaf} (h : OkLeaf c w G l) : l.a.block < w.heap.size := by
  obtain ⟨_, cs, elem, fr, h, _⟩ := h
  exact heap_lt h

theorem OkLeaf.same {l : Leaf} (h : OkLeaf c w G l) (hh : w'.heap[l.a.block]? = w.heap[l.a.block]?) (hg : G' l.a.block = G l.a.block) : OkLeaf c w' G' l := by
  unfold OkLeaf at *
  rw [hh, hg]; exact h

theorem leafO_same : ∀ (os : List Ob) (bs : List Nat), (∀ b ∈ bs, w'.heap[b]? = w.heap[b]?) → leafO w' os bs = leafO w os bs
  | [], _, _ => by simp [leafO]
  | _ :: _, [], _ => by simp [leafO]
  | o :: os, b :: bs, h => by
    have h1 := h b (by simp)
    simp only [leafO, cellsAt, h1, leafO_same os bs (fun b hb => h b (by simp [hb]))]

theorem ObRep.mono {μ : List Nat} {o : Ob} {b : Nat} (h : ObRep c w G μ o b) (s : Seal w G w' G') (hh : w'.heap[b]? = w.heap[b]?) : ObRep c w' G' μ o b := by
  cases o with
  | cells cs =>
    obtain ⟨l, e, fr, h1, h2, h3, h4, h5⟩ := h
    exact ⟨l, e, fr, hh.trans h1, h2, h3, h4, fun i v x hv hx => (h5 i v x hv hx).mono s⟩
  | sit s p => obtain ⟨n, h1, h2⟩ := h; exact ⟨n, h1, hh.trans h2⟩
  | mp kd vd es => obtain ⟨⟨l, n, h1, h2⟩, h3⟩ := h; exact ⟨⟨l, n, hh.trans h1, h2⟩, h3⟩
  | dead => trivial

theorem Inv.ext (h : Inv c w G μ env tmps objs) (x : WExt w G w' G') : Inv c w' G' μ env tmps objs := by
  have s := x.sealed h.none
  have hO : leafO w' objs μ = leafO w objs μ := leafO_same objs μ fun b hb => (x.keep b (h.mine b hb).1).1
  refine ⟨h.len, fun i v y hv hy => (h.rep i v y hv hy).mono s, h.olen, fun i o b ho hb => ?_, fun b => ?_, fun l hl => ?_, fun b hb => ?_, x.none⟩
  · exact (h.obs i o b ho hb).mono s (x.keep b (h.mine b (List.mem_of_getElem? hb)).1).1
  · rw [hO]; exact h.one b
  · rw [hO] at hl
    have hk := h.ok l hl
    exact hk.same (x.keep _ hk.lt).1 (x.keep _ hk.lt).2
  · have := h.mine b hb
    exact ⟨Nat.lt_of_lt_of_le this.1 x.size, by rw [(x.keep b this.1).2]; exact this.2⟩

theorem Sim.ext (h : Sim c E w G μ env tmps objs) (x : WExt w G w' G') : Sim c E w' G' μ env tmps objs := by
  have hO : leafO w' objs μ = leafO w objs μ := leafO_same objs μ fun b hb => (x.keep b (h.inv.mine b hb).1).1
  refine ⟨h.inv.ext x, ⟨Nat.le_trans h.stp.size x.size, h.stp.sealed.trans (x.sealed h.inv.none), fun b hb hu => ?_, x.os.trans h.stp.os, x.out.trans h.stp.out, x.tape.trans h.stp.tape⟩, fun b hb hc => ?_, h.pre⟩
  · have h1 := h.stp.keep b hb hu
    have h2 := x.keep b (Nat.lt_of_lt_of_le hb h.stp.size)
    exact ⟨h2.1.trans h1.1, h2.2.trans h1.2⟩
  · rw [hO] at hc; exact h.own b hb hc

/-- The value in front is laid into a slot. -/
theorem Sim.put {v : V} {x : Value} (h : Sim c E w G μ (v :: env) (x :: tmps) objs) (d : Nat) : Sim c E w G μ (env.set d v) (tmps.set d x) objs := by
  have hz : zipF leaf3 (v :: env) (x :: tmps) = leaf3 v x ++ zipF leaf3 env tmps := rfl
  have hlen : env.length ≤ tmps.length := by have := h.inv.len; simpa using this
  have hcnt : ∀ b, cnt b (zipF leaf3 (env.set d v) (tmps.set d x)) ≤ cnt b (zipF leaf3 (v :: env) (x :: tmps)) := by
    intro b
    rw [hz, cnt_append]
    by_cases hd : d < env.length
    · have := zipF_set leaf3 b v x env tmps d _ _ (List.getElem?_eq_getElem hd) (List.getElem?_eq_getElem (Nat.lt_of_lt_of_le hd hlen))
      omega
    · rw [List.set_eq_of_length_le (Nat.le_of_not_lt hd), zipF_beyond leaf3 x env tmps d (Nat.le_of_not_lt hd)]; omega
  refine ⟨⟨by simpa using hlen, fun i u y hu hy => ?_, h.inv.olen, h.inv.obs, fun b => ?_, fun l hl => ?_, h.inv.mine, h.inv.none⟩, h.stp, fun b hb hc => ?_, h.pre⟩
  · by_cases hi : d = i
    · subst hi
      have hd : d < env.length := by have := (List.getElem?_eq_some_iff.1 hu).1; simpa using this
      simp [List.getElem?_set_self hd] at hu
      simp [List.getElem?_set_self (Nat.lt_of_lt_of_le hd hlen)] at hy
      subst hu; subst hy
      exact h.inv.rep 0 _ _ rfl rfl
    · rw [List.getElem?_set_ne hi] at hu hy
      exact h.inv.rep (i + 1) u y (by simpa using hu) (by simpa using hy)
  · have := h.inv.one b; have := hcnt b; omega
  · refine h.inv.ok l ?_
    rw [List.mem_append] at hl ⊢
    rcases hl with hl | hl
    · refine .inl ?_
      rw [hz, List.mem_append]
      exact zipF_set_mem leaf3 env tmps d hl
    · exact .inr hl
  · refine h.own b hb ?_
    have := hcnt b
    omega

/-- A value without a right to append comes in front. -/
theorem Sim.push {v : V} {x : Value} (h : Sim c E w G μ env tmps objs) (hr : Rep c w G μ v x) (hl : leaf3 v x = []) : Sim c E w G μ (v :: env) (x :: tmps) objs := by
  have hz : zipF leaf3 (v :: env) (x :: tmps) = zipF leaf3 env tmps := by simp [zipF, hl]
  refine ⟨⟨by simpa using h.inv.len, fun i u y hu hy => ?_, h.inv.olen, h.inv.obs, fun b => by rw [hz]; exact h.inv.one b, fun l hl => h.inv.ok l (by rwa [hz] at hl), h.inv.mine, h.inv.none⟩,
    h.stp, fun b hb hc => h.own b hb (by rwa [hz] at hc), h.pre⟩
  cases i with
  | zero => simp at hu hy; subst hu; subst hy; exact hr
  | succ i => exact h.inv.rep i u y (by simpa using hu) (by simpa using hy)

/-- The value in front goes. -/
theorem Sim.pop {v : V} {x : Value} (h : Sim c E w G μ (v :: env) (x :: tmps) objs) : Sim c E w G μ env tmps objs := by
  have hz : zipF leaf3 (v :: env) (x :: tmps) = leaf3 v x ++ zipF leaf3 env tmps := rfl
  refine ⟨⟨by have := h.inv.len; simpa using this, fun i u y hu hy => h.inv.rep (i + 1) u y (by simpa using hu) (by simpa using hy), h.inv.olen, h.inv.obs, fun b => ?_, fun l hl => ?_, h.inv.mine, h.inv.none⟩,
    h.stp, fun b hb hc => ?_, h.pre⟩
  · have := h.inv.one b; rw [hz, cnt_append] at this; omega
  · refine h.inv.ok l ?_
    rw [hz]
    simp only [List.mem_append] at hl ⊢
    rcases hl with hl | hl
    · exact .inl (.inr hl)
    · exact .inr hl
  · refine h.own b hb ?_
    rw [hz, cnt_append]; omega

theorem leaf1_cut1 (v : V) (x : Value) : leaf1 v.cut1 x = [] := by cases v <;> cases x <;> simp [V.cut1, leaf1]
theorem zipF_map (f : V → Value → List Leaf) (g : V → V) (h : ∀ v x, f (g v) x = []) : ∀ (vs : List V) (xs : List Value), zipF f (vs.map g) xs = []
  | [], _ => by simp [zipF]
  | _ :: _, [] => by simp [zipF]
  | v :: vs, x :: xs => by simp [zipF, h, zipF_map f g h vs xs]
theorem leaf2_cut2 (v : V) (x : Value) : leaf2 v.cut2 x = [] := by
  cases v <;> cases x <;> simp only [V.cut2, V.cut1, leaf2, leaf1]
  exact zipF_map leaf1 V.cut1 leaf1_cut1 _ _
theorem leaf3_cut (v : V) (x : Value) : leaf3 v.cut x = [] := by
  cases v with
  | tup cs =>
    cases x <;> simp only [V.cut, leaf3, leaf2, leaf1]
    exact zipF_map leaf2 V.cut2 leaf2_cut2 _ _
  | agg cs => cases x <;> simp only [V.cut, V.cut2, leaf3, leaf2, leaf1]; exact zipF_map leaf1 V.cut1 leaf1_cut1 _ _
  | _ => cases x <;> simp only [V.cut, V.cut2, V.cut1, leaf3, leaf2, leaf1]

theorem Rep.cut1 {v : V} {x : Value} (h : Rep c w G μ v x) : Rep c w G μ v.cut1 x := by
  cases h with
  | lst e t xs a cap l hl hr hf hs hz hc ha hrow => exact .lst e false xs a cap l hl hr hf hs hz hc ha hrow
  | bool b => exact .bool b
  | int k n => exact .int k n
  | str t => exact .str t
  | agg cs l hl hs hr => exact .agg cs l hl hs hr
  | tup cs l hl hr => exact .tup cs l hl hr
  | ref i off b h => exact .ref i off b h
  | mref i b h => exact .mref i b h
  | cpt cs b off l hl hs hr hrow => exact .cpt cs b off l hl hs hr hrow
  | clo fn f cp lf lc hl hl' hr hr' => exact .clo fn f cp lf lc hl hl' hr hr'
  | ifc t v x h => exact .ifc t v x h
  | raw => exact .raw _
  | bot => exact .bot _
theorem get_map {α β : Type} {f : α → β} {l : List α} {i : Nat} {u : β} (h : (l.map f)[i]? = some u) : ∃ v, l[i]? = some v ∧ u = f v := by
  rw [List.getElem?_map] at h
  cases hv : l[i]? with
  | none => simp [hv] at h
  | some v => simp [hv] at h; exact ⟨v, rfl, h.symm⟩
theorem Rep.cut2 {v : V} {x : Value} (h : Rep c w G μ v x) : Rep c w G μ v.cut2 x := by
  cases h with
  | agg cs l hl hs hr =>
    refine .agg _ l (by simpa using hl) hs fun i u x hu hx => ?_
    obtain ⟨v, hv, rfl⟩ := get_map hu
    exact (hr i v x hv hx).cut1
  | lst e t xs a cap l hl hr hf hs hz hc ha hrow => exact .lst e false xs a cap l hl hr hf hs hz hc ha hrow
  | bool b => exact .bool b
  | int k n => exact .int k n
  | str t => exact .str t
  | tup cs l hl hr => exact .tup cs l hl hr
  | ref i off b h => exact .ref i off b h
  | mref i b h => exact .mref i b h
  | cpt cs b off l hl hs hr hrow => exact .cpt cs b off l hl hs hr hrow
  | clo fn f cp lf lc hl hl' hr hr' => exact .clo fn f cp lf lc hl hl' hr hr'
  | ifc t v x h => exact .ifc t v x h
  | raw => exact .raw _
  | bot => exact .bot _
theorem Rep.cut {v : V} {x : Value} (h : Rep c w G μ v x) : Rep c w G μ v.cut x := by
  by_cases ht : ∃ cs, v = .tup cs
  · obtain ⟨cs, rfl⟩ := ht
    cases h with
    | tup cs l hl hr =>
      refine .tup _ l (by simpa using hl) fun i u x hu hx => ?_
      obtain ⟨v, hv, rfl⟩ := get_map hu
      exact (hr i v x hv hx).cut2
  · have : v.cut = v.cut2 := by cases v <;> first | rfl | exact absurd ⟨_, rfl⟩ ht
    rw [this]; exact h.cut2

/-- A slot's value comes in front; the slot keeps it without the right to append. -/
theorem Sim.take {v : V} {x : Value} (h : Sim c E w G μ env tmps objs) {s : Nat} (hv : env[s]? = some v) (hx : tmps[s]? = some x) :
    Sim c E w G μ (v :: env.set s v.cut) (x :: tmps) objs := by
  have hcnt : ∀ b, cnt b (zipF leaf3 (v :: env.set s v.cut) (x :: tmps)) = cnt b (zipF leaf3 env tmps) := by
    intro b
    have := zipF_set leaf3 b v.cut x env tmps s v x hv hx
    rw [leaf3_cut, cnt_nil] at this
    have hs : tmps.set s x = tmps := by
      apply List.ext_getElem?
      intro j
      by_cases hj : s = j
      · subst hj; rw [List.getElem?_set_self (List.getElem?_eq_some_iff.1 hx).1, hx]
      · rw [List.getElem?_set_ne hj]
    rw [hs] at this
    show cnt b (leaf3 v x ++ zipF leaf3 (env.set s v.cut) tmps) = _
    rw [cnt_append]; omega
  have hmem : ∀ l, l ∈ zipF leaf3 (v :: env.set s v.cut) (x :: tmps) → l ∈ zipF leaf3 env tmps := by
    have key : ∀ l, l ∈ leaf3 v x → l ∈ zipF leaf3 env tmps := by
      have : ∀ (vs : List V) (xs : List Value) (i : Nat), vs[i]? = some v → xs[i]? = some x → ∀ l, l ∈ leaf3 v x → l ∈ zipF leaf3 vs xs := by
        intro vs
        induction vs with
        | nil => intro xs i h; simp at h
        | cons a vs ih =>
          intro xs i h1 h2 l hl
          cases xs with
          | nil => simp at h2
          | cons y xs =>
            simp only [zipF, List.mem_append]
            cases i with
            | zero => simp at h1 h2; subst h1; subst h2; exact .inl hl
            | succ i => exact .inr (ih xs i (by simpa using h1) (by simpa using h2) l hl)
      exact this env tmps s hv hx
    intro l hl
    have hl' : l ∈ leaf3 v x ++ zipF leaf3 (env.set s v.cut) tmps := hl
    rw [List.mem_append] at hl'
    rcases hl' with hl' | hl'
    · exact key l hl'
    · have hs : tmps.set s x = tmps := by
        apply List.ext_getElem?
        intro j
        by_cases hj : s = j
        · subst hj; rw [List.getElem?_set_self (List.getElem?_eq_some_iff.1 hx).1, hx]
        · rw [List.getElem?_set_ne hj]
      rw [← hs] at hl'
      rcases zipF_set_mem leaf3 env tmps s hl' with h | h
      · rw [leaf3_cut] at h; cases h
      · exact h
  have hrep := h.inv.rep s v x hv hx
  refine ⟨⟨by simpa using h.inv.len, fun i u y hu hy => ?_, h.inv.olen, h.inv.obs, fun b => by rw [hcnt]; exact h.inv.one b, fun l hl => ?_, h.inv.mine, h.inv.none⟩,
    h.stp, fun b hb hc => h.own b hb (by rwa [hcnt] at hc), h.pre⟩
  · cases i with
    | zero => simp at hu hy; subst hu; subst hy; exact hrep
    | succ i =>
      simp only [List.getElem?_cons_succ] at hu hy
      by_cases hi : s = i
      · subst hi
        rw [List.getElem?_set_self (List.getElem?_eq_some_iff.1 hv).1] at hu
        cases hu
        rw [hx] at hy; cases hy
        exact hrep.cut
      · rw [List.getElem?_set_ne hi] at hu
        exact h.inv.rep i u y hu hy
  · refine h.inv.ok l ?_
    rw [List.mem_append] at hl ⊢
    exact hl.imp (hmem l) id

/-- A slot loses the right to append. -/
theorem Sim.shed {v : V} (h : Sim c E w G μ env tmps objs) {s : Nat} (hv : env[s]? = some v) : Sim c E w G μ (env.set s v.cut) tmps objs := by
  have hlt : s < tmps.length := Nat.lt_of_lt_of_le (List.getElem?_eq_some_iff.1 hv).1 h.inv.len
  exact (h.take hv (List.getElem?_eq_getElem hlt)).pop
end
end Go.Ev
