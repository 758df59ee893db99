/- Objects that are written; rows that are appended to where they lie. -/
import Derived.Test.YtmhhcoccfojiiaaDoorEvF
namespace Go.Ev

def leafOb (w : World) (o : Ob) (b : Nat) : List Leaf := match o with | .cells cs => zipF leaf1 cs (cellsAt w b) | _ => []

section
variable {c : Cfg} {E : Ent} {w w' : World} {G G' : Gh} {μ : List Nat} {env env' : List V} {tmps tmps' : List Value} {objs : List Ob}

theorem leafO_cons (w : World) (o : Ob) (os : List Ob) (b : Nat) (bs : List Nat) : leafO w (o :: os) (b :: bs) = leafOb w o b ++ leafO w os bs := by
  cases o <;> rfl

theorem leafO_set (q : Nat) (o' : Ob) : ∀ (os : List Ob) (bs : List Nat) (i : Nat) (o : Ob) (b : Nat), os[i]? = some o → bs[i]? = some b → bs.count b ≤ 1 →
    (∀ k, k ≠ b → w'.heap[k]? = w.heap[k]?) → cnt q (leafO w' (os.set i o') bs) + cnt q (leafOb w o b) = cnt q (leafO w os bs) + cnt q (leafOb w' o' b)
  | [], _, i, _, _, h, _, _, _ => by simp at h
  | p :: os, [], i, _, _, _, h, _, _ => by simp at h
  | p :: os, d :: bs, 0, o, b, h, h', h1, hk => by
    simp at h h'; subst h; subst h'
    have hn : ∀ k ∈ bs, w'.heap[k]? = w.heap[k]? := fun k hkm => hk k fun e => by
      subst e
      have := List.count_pos_iff.2 hkm
      simp at h1; omega
    simp only [List.set_cons_zero, leafO_cons, cnt_append, leafO_same os bs hn]; omega
  | p :: os, d :: bs, i + 1, o, b, h, h', h1, hk => by
    simp at h h'
    have hdb : d ≠ b := fun e => by
      subst e
      have := List.count_pos_iff.2 (List.mem_of_getElem? h')
      simp at h1; omega
    have h1' : bs.count b ≤ 1 := by simp [List.count_cons] at h1; split at h1 <;> omega
    have := leafO_set q o' os bs i o b h h' h1' hk
    have hd : leafOb w' p d = leafOb w p d := by simp only [leafOb, cellsAt, hk d hdb]
    simp only [List.set_cons_succ, leafO_cons, cnt_append, hd]; omega

theorem leafO_set_mem {l : Leaf} (o' : Ob) : ∀ (os : List Ob) (bs : List Nat) (i : Nat) (b : Nat), bs[i]? = some b → bs.count b ≤ 1 →
    (∀ k, k ≠ b → w'.heap[k]? = w.heap[k]?) → l ∈ leafO w' (os.set i o') bs → l ∈ leafOb w' o' b ∨ l ∈ leafO w os bs
  | [], _, i, _, _, _, _, h => by simp [leafO] at h
  | p :: os, [], i, _, h, _, _, _ => by simp at h
  | p :: os, d :: bs, 0, b, h', h1, hk, h => by
    simp at h'; subst h'
    have hn : ∀ k ∈ bs, w'.heap[k]? = w.heap[k]? := fun k hkm => hk k fun e => by
      subst e
      have := List.count_pos_iff.2 hkm
      simp at h1; omega
    simp only [List.set_cons_zero, leafO_cons, List.mem_append, leafO_same os bs hn] at h ⊢
    rcases h with h | h
    · exact .inl h
    · exact .inr (.inr h)
  | p :: os, d :: bs, i + 1, b, h', h1, hk, h => by
    simp at h'
    have hdb : d ≠ b := fun e => by
      subst e
      have := List.count_pos_iff.2 (List.mem_of_getElem? h')
      simp at h1; omega
    have h1' : bs.count b ≤ 1 := by simp [List.count_cons] at h1; split at h1 <;> omega
    have hd : leafOb w' p d = leafOb w p d := by simp only [leafOb, cellsAt, hk d hdb]
    simp only [List.set_cons_succ, leafO_cons, List.mem_append, hd] at h ⊢
    rcases h with h | h
    · exact .inr (.inl h)
    · rcases leafO_set_mem o' os bs i b h' h1' hk h with h | h
      · exact .inl h
      · exact .inr (.inr h)

theorem leafOb_sub (w : World) {l : Leaf} : ∀ (os : List Ob) (bs : List Nat) (i : Nat) (o : Ob) (b : Nat), os[i]? = some o → bs[i]? = some b → l ∈ leafOb w o b → l ∈ leafO w os bs
  | [], _, i, _, _, h, _, _ => by simp at h
  | p :: os, [], i, _, _, _, h, _ => by simp at h
  | p :: os, d :: bs, 0, o, b, h, h', hl => by
    simp at h h'; subst h; subst h'
    rw [leafO_cons, List.mem_append]; exact .inl hl
  | p :: os, d :: bs, i + 1, o, b, h, h', hl => by
    simp at h h'
    rw [leafO_cons, List.mem_append]; exact .inr (leafOb_sub w os bs i o b h h' hl)

/-- An object has another content; what is in front may have gone there, or come from there. -/
theorem Sim.reob (h : Sim c E w G μ env tmps objs) {i b : Nat} {o o' : Ob} (ho : objs[i]? = some o) (hb : μ[i]? = some b)
    (hk : ∀ k, k ≠ b → w'.heap[k]? = w.heap[k]?) (hs : w'.heap.size = w.heap.size) (hos : w'.os = w.os) (hout : w'.output = w.output) (htape : w'.tape = w.tape)
    (hlen : env'.length ≤ tmps'.length) (hrep : ∀ (j : Nat) u y, env'[j]? = some u → tmps'[j]? = some y → Rep c w G μ u y) (hob : ObRep c w' G μ o' b)
    (hcnt : ∀ q, cnt q (zipF leaf3 env' tmps') + cnt q (leafOb w' o' b) ≤ cnt q (zipF leaf3 env tmps) + cnt q (leafOb w o b))
    (hmem : ∀ l, l ∈ zipF leaf3 env' tmps' ∨ l ∈ leafOb w' o' b → l ∈ zipF leaf3 env tmps ∨ l ∈ leafOb w o b) :
    Sim c E w' G μ env' tmps' (objs.set i o') := by
  have hbm : b ∈ μ := List.mem_of_getElem? hb
  have hone := h.inv.one b
  have hb1 : μ.count b ≤ 1 := by omega
  have hpos := List.count_pos_iff.2 hbm
  have hG := (h.inv.mine b hbm).2
  have hseal : Seal w G w' G := by
    refine ⟨fun k o ho => ?_, fun _ => Nat.le_refl _⟩
    have : k ≠ b := fun e => by rw [e, hG] at ho; omega
    exact cell?_of_heap (hk k this)
  have hsum : ∀ q, cnt q (zipF leaf3 env' tmps') + cnt q (leafO w' (objs.set i o') μ) + μ.count q ≤ cnt q (zipF leaf3 env tmps) + cnt q (leafO w objs μ) + μ.count q := by
    intro q
    have h1 := leafO_set (w := w) (w' := w') q o' objs μ i o b ho hb hb1 hk
    have h2 := hcnt q
    have h3 : cnt q (leafOb w o b) ≤ cnt q (leafO w objs μ) := by
      have : ∀ (os : List Ob) (bs : List Nat) (i : Nat), os[i]? = some o → bs[i]? = some b → cnt q (leafOb w o b) ≤ cnt q (leafO w os bs) := by
        intro os
        induction os with
        | nil => intro bs i h; simp at h
        | cons p os ih =>
          intro bs i h h'
          cases bs with
          | nil => simp at h'
          | cons d bs =>
            rw [leafO_cons, cnt_append]
            cases i with
            | zero => simp at h h'; subst h; subst h'; omega
            | succ i => have := ih bs i (by simpa using h) (by simpa using h'); omega
      exact this objs μ i ho hb
    omega
  refine ⟨⟨hlen, fun j u y hu hy => (hrep j u y hu hy).mono hseal, by simpa using h.inv.olen, fun j p d hp hd => ?_, fun q => Nat.le_trans (hsum q) (h.inv.one q), fun l hl => ?_, fun k hkm => ?_, fun k hks => h.inv.none k (by omega)⟩,
    ⟨by rw [hs]; exact h.stp.size, h.stp.sealed.trans hseal, fun k hks hu => ?_, hos.trans h.stp.os, hout.trans h.stp.out, htape.trans h.stp.tape⟩, fun k hks hc => h.own k hks (Nat.lt_of_lt_of_le hc (hsum k)), h.pre⟩
  · by_cases hji : i = j
    · subst hji
      rw [List.getElem?_set_self (List.getElem?_eq_some_iff.1 ho).1] at hp
      cases hp
      rw [hb] at hd; cases hd
      exact hob
    · rw [List.getElem?_set_ne hji] at hp
      have hdb : d ≠ b := fun e => by
        subst e
        have h2 : 2 ≤ μ.count d := by
          have : ∀ (l : List Nat) (i j : Nat), i ≠ j → l[i]? = some d → l[j]? = some d → 2 ≤ l.count d := by
            intro l
            induction l with
            | nil => intro i j _ h; simp at h
            | cons a l ih =>
              intro i j hne hi hj
              cases i with
              | zero =>
                cases j with
                | zero => exact absurd rfl hne
                | succ j =>
                  simp at hi hj; subst hi
                  have := List.count_pos_iff.2 (List.mem_of_getElem? hj)
                  rw [List.count_cons_self]; omega
              | succ i =>
                cases j with
                | zero =>
                  simp at hi hj; subst hj
                  have := List.count_pos_iff.2 (List.mem_of_getElem? hi)
                  rw [List.count_cons_self]; omega
                | succ j =>
                  have := ih i j (by omega) (by simpa using hi) (by simpa using hj)
                  rw [List.count_cons]; omega
          exact this μ i j hji hb hd
        omega
      exact (h.inv.obs j p d hp hd).mono hseal (hk d hdb)
  · have key : l ∈ zipF leaf3 env tmps ++ leafO w objs μ := by
      rw [List.mem_append] at hl ⊢
      rcases hl with hl | hl
      · rcases hmem l (.inl hl) with h1 | h1
        · exact .inl h1
        · exact .inr (leafOb_sub w objs μ i o b ho hb h1)
      · rcases leafO_set_mem o' objs μ i b hb hb1 hk hl with h1 | h1
        · rcases hmem l (.inr h1) with h1 | h1
          · exact .inl h1
          · exact .inr (leafOb_sub w objs μ i o b ho hb h1)
        · exact .inr h1
    have hne : l.a.block ≠ b := fun e => by
      have hq := h.inv.one l.a.block
      rw [List.mem_append] at key
      have : 0 < cnt l.a.block (zipF leaf3 env tmps) + cnt l.a.block (leafO w objs μ) := by
        rcases key with h1 | h1
        · have := cnt_pos.2 ⟨l, h1, rfl⟩; omega
        · have := cnt_pos.2 ⟨l, h1, rfl⟩; omega
      rw [e] at hq this; omega
    exact (h.inv.ok l key).same (hk _ hne) rfl
  · have := h.inv.mine k hkm
    exact ⟨by rw [hs]; exact this.1, this.2⟩
  · have hkb : k ≠ b := fun e => by
      subst e
      exact hu (h.own k hks (by omega))
    have := h.stp.keep k hks hu
    exact ⟨(hk k hkb).trans this.1, this.2⟩

theorem over_length : ∀ (off : Nat) (n old : List V), off + n.length ≤ old.length → (over off n old).length = old.length
  | 0, n, old, h => by simp at h; simp [over]; omega
  | o + 1, n, [], h => by simp at h
  | o + 1, n, x :: old, h => by simp at h; simp [over, over_length o n old (by omega)]

def overX : (off : Nat) → (new old : List Value) → List Value
  | 0, n, old => n ++ old.drop n.length
  | o + 1, n, x :: old => x :: overX o n old
  | _ + 1, _, [] => []
theorem overX_eq : ∀ (off : Nat) (n old : List Value), off + n.length ≤ old.length → overX off n old = old.take off ++ n ++ old.drop (off + n.length)
  | 0, n, old, _ => by simp [overX]
  | o + 1, n, [], h => by simp at h
  | o + 1, n, x :: old, h => by
    simp at h
    have : o + 1 + n.length = o + n.length + 1 := by omega
    simp [overX, overX_eq o n old (by omega), this]

theorem over_get {p : V → Value → Prop} : ∀ (off : Nat) (n old : List V) (N Old : List Value), n.length = N.length → old.length = Old.length →
    (∀ (i : Nat) v x, n[i]? = some v → N[i]? = some x → p v x) → (∀ (i : Nat) v x, old[i]? = some v → Old[i]? = some x → p v x) →
    ∀ (i : Nat) v x, (over off n old)[i]? = some v → (overX off N Old)[i]? = some x → p v x
  | 0, n, old, N, Old, hl, hl', h1, h2, i, v, x, hv, hx => by
    simp only [over, overX] at hv hx
    by_cases hi : i < n.length
    · rw [List.getElem?_append_left hi] at hv
      rw [List.getElem?_append_left (by omega)] at hx
      exact h1 i v x hv hx
    · rw [List.getElem?_append_right (by omega), List.getElem?_drop] at hv hx
      rw [← hl] at hx
      exact h2 _ v x hv hx
  | o + 1, n, [], N, Old, hl, hl', h1, h2, i, v, x, hv, hx => by simp [over] at hv
  | o + 1, n, y :: old, N, [], hl, hl', h1, h2, i, v, x, hv, hx => by simp [overX] at hx
  | o + 1, n, y :: old, N, Y :: Old, hl, hl', h1, h2, i, v, x, hv, hx => by
    cases i with
    | zero => simp [over, overX] at hv hx; subst hv; subst hx; exact h2 0 _ _ rfl rfl
    | succ i =>
      simp only [over, overX, List.getElem?_cons_succ] at hv hx
      exact over_get o n old N Old hl (by simpa using hl') h1 (fun i v x hv hx => h2 (i + 1) v x (by simpa using hv) (by simpa using hx)) i v x hv hx

theorem zipF_append (f : V → Value → List Leaf) : ∀ (a b : List V) (A B : List Value), a.length = A.length → zipF f (a ++ b) (A ++ B) = zipF f a A ++ zipF f b B
  | [], b, [], B, _ => by simp [zipF]
  | [], b, _ :: _, B, h => by simp at h
  | _ :: _, b, [], B, h => by simp at h
  | x :: a, b, X :: A, B, h => by simp [zipF, zipF_append f a b A B (by simpa using h)]

theorem zipF_drop (f : V → Value → List Leaf) (q : Nat) : ∀ (n : Nat) (a : List V) (A : List Value), cnt q (zipF f (a.drop n) (A.drop n)) ≤ cnt q (zipF f a A)
  | 0, a, A => by simp
  | n + 1, [], A => by simp [zipF]
  | n + 1, x :: a, [] => by simp [zipF]
  | n + 1, x :: a, X :: A => by simp [zipF, cnt_append]; have := zipF_drop f q n a A; omega
theorem zipF_drop_mem (f : V → Value → List Leaf) {l : Leaf} : ∀ (n : Nat) (a : List V) (A : List Value), l ∈ zipF f (a.drop n) (A.drop n) → l ∈ zipF f a A
  | 0, a, A, h => by simpa using h
  | n + 1, [], A, h => by simp [zipF] at h
  | n + 1, x :: a, [], h => by simp [zipF] at h
  | n + 1, x :: a, X :: A, h => by simp [zipF]; exact .inr (zipF_drop_mem f n a A (by simpa using h))

theorem zipF_over (f : V → Value → List Leaf) (q : Nat) : ∀ (off : Nat) (n old : List V) (N Old : List Value), n.length = N.length →
    cnt q (zipF f (over off n old) (overX off N Old)) ≤ cnt q (zipF f n N) + cnt q (zipF f old Old)
  | 0, n, old, N, Old, hl => by
    simp only [over, overX]
    rw [zipF_append f _ _ _ _ hl, cnt_append, hl]
    have := zipF_drop f q N.length old Old
    omega
  | o + 1, n, [], N, Old, hl => by simp [over, zipF, cnt]
  | o + 1, n, y :: old, N, [], hl => by simp [overX, zipF, cnt]
  | o + 1, n, y :: old, N, Y :: Old, hl => by
    simp only [over, overX, zipF, cnt_append]
    have := zipF_over f q o n old N Old hl
    omega
theorem zipF_over_mem (f : V → Value → List Leaf) {l : Leaf} : ∀ (off : Nat) (n old : List V) (N Old : List Value), n.length = N.length →
    l ∈ zipF f (over off n old) (overX off N Old) → l ∈ zipF f n N ∨ l ∈ zipF f old Old
  | 0, n, old, N, Old, hl, h => by
    simp only [over, overX] at h
    rw [zipF_append f _ _ _ _ hl, List.mem_append, hl] at h
    exact h.imp id (zipF_drop_mem f N.length old Old)
  | o + 1, n, [], N, Old, hl, h => by simp [over, zipF] at h
  | o + 1, n, y :: old, N, [], hl, h => by simp [overX, zipF] at h
  | o + 1, n, y :: old, N, Y :: Old, hl, h => by
    simp only [over, overX, zipF, List.mem_append] at h ⊢
    rcases h with h | h
    · exact .inr (.inl h)
    · rcases zipF_over_mem f o n old N Old hl h with h | h
      · exact .inl h
      · exact .inr (.inr h)

theorem leaf3_cells {v : V} {x : Value} (hr : Rep c w G μ v x) (hv : v.cells.all V.single = true) : zipF leaf1 v.cells x.cells.toList = leaf3 v x := by
  by_cases ha : ∃ cs, v = .agg cs
  · obtain ⟨cs, rfl⟩ := ha
    cases hr with
    | agg cs l hl hs hr => simp [leaf3, leaf2, V.cells, Value.cells]
  · have hvc : v.cells = [v] := by cases v <;> first | rfl | exact absurd ⟨_, rfl⟩ ha
    have hsv : v.single = true := by simpa [hvc] using hv
    have hsx := single_of hr hsv
    rw [hvc, cells_of_single hsx]
    simp only [zipF, List.append_nil]
    cases v <;> simp_all [V.single] <;> cases x <;> simp_all [leaf3, leaf2, leaf1]

/-- A store into an object. -/
theorem Sim.store {v : V} {x : Value} (h : Sim c E w G μ (v :: env) (x :: tmps) objs) {i b off : Nat} {cs : List V} (ho : objs[i]? = some (.cells cs)) (hb : μ[i]? = some b)
    (hv : v.cells.all V.single = true) (hle : off + v.cells.length ≤ cs.length) :
    ∃ w', (storeCells ⟨b, off, none⟩ x.cells.toList).run c.P w = .ok () w' ∧ Sim c E w' G μ env tmps (objs.set i (.cells (over off v.cells cs))) := by
  have hrv := h.inv.rep 0 v x rfl rfl
  obtain ⟨hc1, hc2, hc3⟩ := cells_rep hrv hv
  obtain ⟨l, elem, fr, h1, h2, h3, h4, h5⟩ := h.inv.obs i _ b ho hb
  have hxl : x.cells.toList.length = v.cells.length := by simpa using hc1
  obtain ⟨cs', hrun, hcs'⟩ := run_storeCells_blk c.P b off elem fr x.cells.toList 0 l.toArray w h1 (by simp; omega) hc2
    (fun o ho ho' => h2 o (by rw [hxl] at ho'; omega))
  simp only [Nat.add_zero, List.toList_toArray] at hcs'
  have hnew : cs'.toList = overX off x.cells.toList l := by rw [hcs', overX_eq off _ _ (by omega)]
  have hlt := heap_lt h1
  have hcat : cellsAt (blk w b (.cells cs' elem fr)) b = cs'.toList := by unfold cellsAt; rw [blk_same hlt]
  have hcat0 : cellsAt w b = l := by unfold cellsAt; rw [h1]
  have hzz : zipF leaf3 (v :: env) (x :: tmps) = leaf3 v x ++ zipF leaf3 env tmps := rfl
  refine ⟨_, hrun, ?_⟩
  refine h.reob (o' := .cells (over off v.cells cs)) ho hb (fun k hk => blk_other hk) blk_size rfl rfl rfl (by have := h.inv.len; simpa using this) (fun j u y hu hy => h.inv.rep (j + 1) u y (by simpa using hu) (by simpa using hy)) ?_ (fun q => ?_) (fun q hq => ?_)
  · have hG := (h.inv.mine b (List.mem_of_getElem? hb)).2
    have hseal : Seal w G (blk w b (.cells cs' elem fr)) G := by
      refine ⟨fun k o ho => ?_, fun _ => Nat.le_refl _⟩
      have : k ≠ b := fun e => by rw [e, hG] at ho; omega
      exact cell?_of_heap (blk_other this)
    have hlen' : cs'.toList.length = l.length := by
      rw [hcs']; simp; omega
    refine ⟨cs'.toList, elem, fr, by rw [blk_same hlt], fun o ho => h2 o (by omega), by rw [hlen', h3, over_length off _ _ hle], fun y hy => ?_, fun j u y hu hy => ?_⟩
    · rw [hcs'] at hy
      simp only [List.mem_append] at hy
      rcases hy with (hy | hy) | hy
      · exact h4 y (List.mem_of_mem_take hy)
      · exact hc2 y hy
      · exact h4 y (List.mem_of_mem_drop hy)
    · rw [hnew] at hy
      exact over_get (p := fun u y => Rep c (blk w b (.cells cs' elem fr)) G μ u y) off v.cells cs x.cells.toList l hxl.symm h3.symm
        (fun i u y hu hy => (hc3 i u y hu hy).mono hseal) (fun i u y hu hy => (h5 i u y hu hy).mono hseal) j u y hu hy
  · simp only [leafOb, hcat, hcat0, hnew, hzz, cnt_append]
    have := zipF_over leaf1 q off v.cells cs x.cells.toList l hxl.symm
    rw [leaf3_cells hrv hv] at this
    omega
  · simp only [leafOb, hcat, hcat0, hnew, hzz, List.mem_append] at hq ⊢
    rcases hq with hq | hq
    · exact .inl (.inr hq)
    · rcases zipF_over_mem leaf1 off v.cells cs x.cells.toList l hxl.symm hq with hq | hq
      · rw [leaf3_cells hrv hv] at hq; exact .inl (.inl hq)
      · exact .inr hq
end
end Go.Ev
