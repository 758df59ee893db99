/- Each operation: what the plain reading says, the model does. First part. -/
import Derived.Test.YtmhhcoccfojiiaaDoorEvI
namespace Go.Ev

section
variable {c : Cfg} {E : Ent} {w w' : World} {G G' : Gh} {μ : List Nat} {R : Type}

/-- The value is there, and what is left goes on from a state that fits. -/
def Went (c : Cfg) (E : Ent) {R : Type} (K : V → St → Option R) (r : R) (tmps : List Value) (u : Value) (w' : World) : Prop :=
  ∃ v S' G' μ', K v S' = some r ∧ Sim c E w' G' μ' (v :: S'.env) (u :: tmps) S'.objs

def OpOk (c : Cfg) (E : Ent) {R : Type} (o : Oper) (a : Act) (w : World) (K : V → St → Option R) (r : R) : Prop :=
  (∃ u w', (execOp a.eval o).run c.P w = .ok (.value u) w' ∧ Went c E K r a.tmps.toList u w') ∨
  (∃ w', (execOp a.eval o).run c.P w = .ok .skip w' ∧ Went c E K r a.tmps.toList undef w') ∨
  (∃ f args, (execOp a.eval o).run c.P w = .ok (.enter f args) w ∧ Calls c.P f args w fun e w' => ∃ u, e = .returned u ∧ Went c E K r a.tmps.toList u w')

abbrev SimS (c : Cfg) (E : Ent) (w : World) (G : Gh) (μ : List Nat) (S : St) (a : Act) : Prop := Sim c E w G μ S.env a.tmps.toList S.objs

theorem getD_toList (l : Array Value) (t : Nat) : l.getD t undef = l.toList.getD t undef := by
  simp [Array.getD_eq_getD_getElem?, List.getD]

theorem constV_rep (v : Value) (t : TypeId) (w : World) (G : Gh) (μ : List Nat) : Rep c w G μ (constV c t v) v := by
  unfold constV
  split
  · exact .bool _
  · exact .int _ _
  · rename_i s
    have : (⟨s.data.toList.toArray⟩ : ByteArray) = s := by simp
    have h := Rep.str (c := c) (w := w) (G := G) (μ := μ) s.data.toList
    rwa [this] at h
  · split
    · split
      · rename_i e he hz
        have := Rep.lst (c := c) (w := w) (G := G) (μ := μ) e true [] none 0 [] rfl (fun i v x h => by simp at h) (fun v h => by cases h) (fun x h => by cases h) hz (Nat.le_refl _) (fun _ => rfl) (fun p h => by cases h)
        simpa using this
      · exact .bot _
    · exact .bot _
  · exact .raw _
  · exact .raw _
  · exact .raw _
  · exact .raw _
  · exact .bot _

theorem constV_leaf (v : Value) (t : TypeId) : leaf3 (constV c t v) v = [] := by
  unfold constV
  split <;> first | rfl | skip
  · split
    · split <;> rfl
    · rfl

theorem opd_rep {S : St} {a : Act} (h : SimS c E w G μ S a) (t : TypeId) (x : Operand) : Rep c w G μ (opd c S t x) (a.eval x) := by
  cases x with
  | tmp s =>
    simp only [opd, St.get, Act.eval, getD_toList]
    by_cases hs : s < S.env.length
    · have hs' : s < a.tmps.toList.length := Nat.lt_of_lt_of_le hs h.inv.len
      have e1 : S.env.getD s .bot = S.env[s] := by simp [List.getD, List.getElem?_eq_getElem hs]
      have e2 : a.tmps.toList.getD s undef = a.tmps.toList[s] := by simp [List.getD, List.getElem?_eq_getElem hs']
      rw [e1, e2]
      exact h.inv.rep s _ _ (List.getElem?_eq_getElem hs) (List.getElem?_eq_getElem hs')
    · have e1 : S.env.getD s .bot = .bot := by simp [List.getD, List.getElem?_eq_none (Nat.le_of_not_lt hs)]
      rw [e1]; exact .bot _
  | const v => exact constV_rep v t w G μ
  | func f =>
    have := Rep.clo (c := c) (w := w) (G := G) (μ := μ) (.func f) [] [] [] [] rfl rfl (fun i v x h => by simp at h) (fun i v x h => by simp at h)
    simpa [opd, Act.eval] using this
  | global g => exact .bot _

theorem setK_eq {α R : Type} : ∀ (l : List α) (d : Nat) (v : α) (K : List α → Option R), setK l d v K = K (l.set d v)
  | [], _, _, _ => by simp [setK]
  | _ :: _, 0, _, _ => by simp [setK]
  | x :: l, d + 1, v, K => by simp [setK, setK_eq l d v]
theorem putK_eq {R : Type} (S : St) (d : Nat) (v : V) (K : St → Option R) : S.putK (some d) v K = K ⟨S.env.set d v, S.objs⟩ := by
  simp [St.putK, setK_eq]
theorem setObK_eq {R : Type} (S : St) (i : Nat) (o : Ob) (K : St → Option R) : S.setObK i o K = K ⟨S.env, S.objs.set i o⟩ := by
  simp [St.setObK, setK_eq]
theorem pushK_eq {R : Type} : ∀ (l : List Ob) (o : Ob) (K : List Ob → Option R), pushK l o K = K (l ++ [o])
  | [], _, _ => by simp [pushK]
  | x :: l, o, K => by simp [pushK, pushK_eq l o]
theorem newK_eq {R : Type} (S : St) (o : Ob) (K : Nat → St → Option R) : S.newK o K = K S.objs.length ⟨S.env, S.objs ++ [o]⟩ := by
  simp [St.newK, pushK_eq]

/-- What an operand holds comes in front; the right to append goes with it. -/
theorem shedK_sim {S : St} {a : Act} {x : Operand} {t : TypeId} {K : St → Option R} {r : R} (h : shedK S x K = some r) (hS : SimS c E w G μ S a) :
    ∃ S', K S' = some r ∧ S'.objs = S.objs ∧ Sim c E w G μ (opd c S t x :: S'.env) (a.eval x :: a.tmps.toList) S.objs := by
  have hrep := opd_rep hS t x
  have plain : (opd c S t x).tips = false → K S = some r → ∃ S', K S' = some r ∧ S'.objs = S.objs ∧ Sim c E w G μ (opd c S t x :: S'.env) (a.eval x :: a.tmps.toList) S.objs :=
    fun ht hk => ⟨S, hk, rfl, hS.push hrep (leaf3_nil_of_tips _ ht)⟩
  cases x with
  | tmp s =>
    have take : ∀ v', v' = (S.get s).cut → S.putK (some s) v' K = some r → ∃ S', K S' = some r ∧ S'.objs = S.objs ∧ Sim c E w G μ (opd c S t (.tmp s) :: S'.env) (a.eval (.tmp s) :: a.tmps.toList) S.objs := by
      intro v' hv' hk
      rw [putK_eq] at hk
      by_cases hs : s < S.env.length
      · have hs' : s < a.tmps.toList.length := Nat.lt_of_lt_of_le hs hS.inv.len
        have e1 : S.get s = S.env[s] := by simp [St.get, List.getD, List.getElem?_eq_getElem hs]
        have e2 : a.eval (.tmp s) = a.tmps.toList[s] := by simp only [Act.eval, getD_toList]; simp [List.getD, List.getElem?_eq_getElem hs']
        refine ⟨_, hk, rfl, ?_⟩
        have := hS.take (List.getElem?_eq_getElem hs) (List.getElem?_eq_getElem hs')
        rw [hv', e2]
        simp only [opd, e1]
        exact this
      · refine ⟨_, hk, rfl, ?_⟩
        have e1 : S.get s = .bot := by simp [St.get, List.getD, List.getElem?_eq_none (Nat.le_of_not_lt hs)]
        rw [List.set_eq_of_length_le (Nat.le_of_not_lt hs)]
        exact hS.push hrep (by simp only [opd, e1]; cases a.eval (.tmp s) <;> rfl)
    simp only [shedK] at h
    split at h
    · rename_i hg; exact take _ (by rw [hg]; rfl) h
    · rename_i hg
      split at h
      · exact take _ (by rw [hg]; rfl) h
      · rename_i hn; exact plain (by simp only [opd, hg]; simpa [V.tips, V.tip2] using hn) h
    · rename_i hg
      split at h
      · exact take _ (by rw [hg]; rfl) h
      · rename_i hn; exact plain (by simp only [opd, hg]; simpa [V.tips] using hn) h
    · rename_i h1 h2 h3
      refine plain ?_ h
      simp only [opd]
      cases hg : S.get s <;> first | rfl | skip
      · rename_i e tp xs
        cases tp
        · rfl
        · exact absurd hg (h1 _ _)
      · exact absurd hg (h2 _)
      · exact absurd hg (h3 _)
  | const v => exact ⟨S, h, rfl, hS.push hrep (constV_leaf v t)⟩
  | func f => exact ⟨S, h, rfl, hS.push hrep rfl⟩
  | global g => exact ⟨S, h, rfl, hS.push hrep (by cases a.eval (.global g) <;> rfl)⟩

/-- Values that are computed: nothing else changes. -/
theorem OpOk.pure {S : St} {a : Act} {o : Oper} {K : V → St → Option R} {r : R} (hS : SimS c E w G μ S a) {v : V} {u : Value} (hk : K v S = some r)
    (hrun : (execOp a.eval o).run c.P w = .ok (.value u) w) (hr : Rep c w G μ v u) (hl : leaf3 v u = []) : OpOk c E o a w K r :=
  .inl ⟨u, w, hrun, v, S, G, μ, hk, hS.push hr hl⟩

theorem run_mapM {α β : Type} {P : Program} {w : World} {f : α → Sem β} {g : α → β} : ∀ (l : List α), (∀ x ∈ l, (f x).run P w = .ok (g x) w) → (l.mapM f).run P w = .ok (l.map g) w
  | [], _ => by simp
  | x :: l, h => by
    have h1 := h x (by simp)
    have h2 := run_mapM l (fun y hy => h y (by simp [hy]))
    simp only [List.mapM_cons, Sem.run_bind, h1, Result.andThen_ok, h2, Sem.run_pure, List.map_cons]

theorem run_mapMA {α β : Type} {P : Program} {w : World} {f : α → Sem β} {g : α → β} (l : Array α) (h : ∀ x ∈ l, (f x).run P w = .ok (g x) w) : (l.mapM f).run P w = .ok (l.map g) w := by
  rw [Array.mapM_eq_mapM_toList, Sem.run_map, run_mapM l.toList (fun x hx => h x (by simpa using hx))]
  simp only [Result.andThen_ok]
  congr 1
  apply Array.ext'
  simp

theorem foldl_over : ∀ (l : List Value) (k off : Nat) (cs : Array Value), off + k + l.length ≤ cs.size →
    ((l.zipIdx k).foldl (fun cs (x : Value × Nat) => cs.setIfInBounds (off + x.2) x.1) cs).toList = overX (off + k) l cs.toList
  | [], k, off, cs, h => by
    rw [overX_eq _ _ _ (by simpa using h)]; simp
  | x :: l, k, off, cs, h => by
    simp only [List.length_cons] at h
    simp only [List.zipIdx_cons, List.foldl_cons]
    rw [foldl_over l (k + 1) off _ (by simp; omega), overX_eq _ _ _ (by simp; omega), overX_eq _ _ _ (by simp; omega)]
    simp only [Array.toList_setIfInBounds, List.length_cons]
    have hlt : off + k < cs.toList.length := by simp; omega
    have e1 : (cs.toList.set (off + k) x).take (off + (k + 1)) = cs.toList.take (off + k) ++ [x] := by
      rw [show off + (k + 1) = off + k + 1 by omega, List.take_add_one, List.getElem?_set_self hlt, List.take_set_of_le (Nat.le_refl _)]; rfl
    have e2 : (cs.toList.set (off + k) x).drop (off + (k + 1) + l.length) = cs.toList.drop (off + k + (l.length + 1)) := by
      rw [List.drop_set_of_lt (by omega)]; congr 1; omega
    rw [e1, e2]; simp

theorem fill_ok (place : Nat → Option (Nat × Nat)) : ∀ (ps : List (Nat × V)) (PS : List (Nat × Value)) (cs cs' : List V) (CS : Array Value), ps.length = PS.length →
    (∀ (i : Nat) p q, ps[i]? = some p → PS[i]? = some q → p.1 = q.1 ∧ Rep c w G μ p.2 q.2) → CS.toList.length = cs.length → (∀ x ∈ CS.toList, single x = true) →
    (∀ (i : Nat) v x, cs[i]? = some v → CS.toList[i]? = some x → Rep c w G μ v x) → fillV place ps cs = some cs' →
    ∃ CS', Instr.fill place CS PS = some CS' ∧ CS'.toList.length = cs'.length ∧ (∀ x ∈ CS'.toList, single x = true) ∧ (∀ (i : Nat) v x, cs'[i]? = some v → CS'.toList[i]? = some x → Rep c w G μ v x) ∧
      ((∀ (i : Nat) p q, ps[i]? = some p → PS[i]? = some q → leaf3 p.2 q.2 = []) → zipF leaf1 cs CS.toList = [] → zipF leaf1 cs' CS'.toList = [])
  | [], PS, cs, cs', CS, hl, _, h1, h2, h3, h => by
    have : PS = [] := List.eq_nil_of_length_eq_zero (by simpa using hl.symm)
    subst this
    simp [fillV] at h; subst h
    exact ⟨CS, rfl, h1, h2, h3, fun _ h => h⟩
  | (i, v) :: ps, [], cs, cs', CS, hl, _, _, _, _, _ => by simp at hl
  | (i, v) :: ps, (j, x) :: PS, cs, cs', CS, hl, hp, h1, h2, h3, h => by
    obtain ⟨hij, hrv⟩ := hp 0 _ _ rfl rfl
    simp only at hij hrv; subst hij
    simp only [fillV] at h
    split at h
    · cases h
    · rename_i off size hpl
      split at h
      · rename_i hcnd
        simp only [Bool.and_eq_true, beq_iff_eq, decide_eq_true_eq] at hcnd
        obtain ⟨⟨hs, hle⟩, hsg⟩ := hcnd
        obtain ⟨hc1, hc2, hc3⟩ := cells_rep hrv hsg
        have hxl : x.cells.toList.length = v.cells.length := by simpa using hc1
        have hov := foldl_over x.cells.toList 0 off CS (by rw [hxl]; simp at h1 ⊢; omega)
        simp only [Nat.add_zero] at hov
        have hfold : (x.cells.zipIdx.foldl (fun cs (c, j) => cs.setIfInBounds (off + j) c) CS).toList = overX off x.cells.toList CS.toList := by
          rw [← hov, ← Array.foldl_toList, Array.toList_zipIdx]
        have hlen2 : (overX off x.cells.toList CS.toList).length = CS.toList.length := by
          rw [overX_eq _ _ _ (by rw [hxl]; omega)]; simp at h1 hxl ⊢; omega
        obtain ⟨CS', g1, g2, g3, g4, g5⟩ := fill_ok place ps PS (over off v.cells cs) cs' (x.cells.zipIdx.foldl (fun cs (c, j) => cs.setIfInBounds (off + j) c) CS)
          (by simpa using hl) (fun i p q hp' hq' => hp (i + 1) p q (by simpa using hp') (by simpa using hq'))
          (by rw [hfold, hlen2, h1, over_length off _ _ (by omega)])
          (fun y hy => by
            rw [hfold, overX_eq _ _ _ (by rw [hxl]; omega)] at hy
            simp only [List.mem_append] at hy
            rcases hy with (hy | hy) | hy
            · exact h2 y (List.mem_of_mem_take hy)
            · exact hc2 y hy
            · exact h2 y (List.mem_of_mem_drop hy))
          (fun i u y hu hy => by
            rw [hfold] at hy
            exact over_get (p := fun u y => Rep c w G μ u y) off v.cells cs x.cells.toList CS.toList hxl.symm h1.symm hc3 h3 i u y hu hy) h
        refine ⟨CS', ?_, g2, g3, g4, fun hq h0 => g5 (fun i p q hp' hq' => hq (i + 1) p q (by simpa using hp') (by simpa using hq')) ?_⟩
        rotate_left
        · rw [hfold]
          refine List.eq_nil_iff_forall_not_mem.2 fun l hl => ?_
          rcases zipF_over_mem leaf1 off v.cells cs x.cells.toList CS.toList hxl.symm hl with h1 | h1
          · rw [leaf3_cells hrv hsg, hq 0 _ _ rfl rfl] at h1; cases h1
          · rw [h0] at h1; cases h1
        have hxs : x.cells.size = size := by rw [hc1, hs]
        simp only [Instr.fill, hpl]
        rw [if_neg (by simp [hxs]; simp at h1; omega)]
        exact g1
      · cases h

theorem zfit_rep {v : V} {x : Value} (h : zfit c v x = true) (w : World) (G : Gh) (μ : List Nat) : Rep c w G μ v x ∧ single x = true ∧ leaf1 v x = [] := by
  unfold zfit at h
  split at h
  · rename_i b b'
    have : b = b' := by simpa using h
    subst this; exact ⟨.bool _, rfl, rfl⟩
  · rename_i k n k' n'
    simp only [Bool.and_eq_true, beq_iff_eq] at h
    obtain ⟨rfl, rfl⟩ := h; exact ⟨.int _ _, rfl, rfl⟩
  · rename_i s
    have : s = ⟨([] : List UInt8).toArray⟩ := by
      apply ByteArray.ext
      have h0 : s.data.size = 0 := eq_of_beq h
      exact Array.eq_empty_of_size_eq_zero h0
    rw [this]; exact ⟨.str [], rfl, rfl⟩
  · rename_i e
    have hz : 0 < tySize c e := by simpa using h
    have := Rep.lst (c := c) (w := w) (G := G) (μ := μ) e true [] none 0 [] rfl (fun i v x h => by simp at h) (fun v h => by cases h) (fun x h => by cases h) hz (Nat.le_refl _) (fun _ => rfl) (fun p h => by cases h)
    exact ⟨by simpa using this, rfl, rfl⟩
  · exact ⟨.raw _, rfl, rfl⟩
  · exact ⟨.raw _, rfl, rfl⟩
  · exact ⟨.raw _, rfl, rfl⟩
  · exact ⟨.raw _, rfl, rfl⟩
  · cases h

theorem zfits_rep : ∀ (a : List V) (b : List Value), zfits c a b = true → ∀ (w : World) (G : Gh) (μ : List Nat), b.length = a.length ∧ (∀ x ∈ b, single x = true) ∧ (∀ (i : Nat) v x, a[i]? = some v → b[i]? = some x → Rep c w G μ v x) ∧ zipF leaf1 a b = []
  | [], [], _, w, G, μ => ⟨rfl, by simp, by simp, rfl⟩
  | [], _ :: _, h, _, _, _ => by simp [zfits] at h
  | _ :: _, [], h, _, _, _ => by simp [zfits] at h
  | v :: a, x :: b, h, w, G, μ => by
    simp only [zfits, Bool.and_eq_true] at h
    obtain ⟨h1, h2, h3⟩ := zfit_rep h.1 w G μ
    obtain ⟨g1, g2, g3, g4⟩ := zfits_rep a b h.2 w G μ
    refine ⟨by simp [g1], fun y hy => by rcases List.mem_cons.1 hy with rfl | hy; exact h2; exact g2 y hy, fun i u y hu hy => ?_, by simp [zipF, h3, g4]⟩
    cases i with
    | zero => simp at hu hy; subst hu; subst hy; exact h1
    | succ i => exact g3 i u y (by simpa using hu) (by simpa using hy)

theorem TyOk.zero {t : TypeId} {y : Ty} (h : TyOk c t y) (w : World) : ∃ z, (zeroValue t).run c.P w = .ok z w ∧ zfits c y.zero z.cells.toList = true ∧ (y.agg = true ↔ ∃ l, z = .agg l) := by
  obtain ⟨i, hi, _, _, z, hz, h1, h2⟩ := h.info
  exact ⟨z, by simp [zeroValue, typeInfo, hi, hz], h1, h2⟩
end
end Go.Ev
