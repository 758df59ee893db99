/- A call that is handed some of the caller's objects: what it leaves behind is a state of the caller's again. -/
import Derived.Test.YtmhhcoccfojiiaaDoorEvK
namespace Go.Ev

section sums
def totF : (Nat → Nat) → Nat → Nat
  | _, 0 => 0
  | f, n + 1 => f 0 + totF (fun i => f (i + 1)) n
def sumL (f : Nat → Nat) : List Nat → Nat
  | [] => 0
  | j :: r => f j + sumL f r

theorem totF_congr : ∀ (n : Nat) (f g : Nat → Nat), (∀ i, i < n → f i = g i) → totF f n = totF g n
  | 0, _, _, _ => rfl
  | n + 1, f, g, h => by
    simp only [totF]
    rw [h 0 (by omega), totF_congr n _ _ (fun i hi => h (i + 1) (by omega))]
theorem totF_pull : ∀ (n : Nat) (f : Nat → Nat) (j : Nat), j < n → totF f n = f j + totF (fun i => if i = j then 0 else f i) n
  | 0, _, j, h => by omega
  | n + 1, f, 0, _ => by
    simp only [totF]
    have : totF (fun i => if i + 1 = 0 then 0 else f (i + 1)) n = totF (fun i => f (i + 1)) n := totF_congr n _ _ fun i _ => by simp
    rw [this]; simp
  | n + 1, f, j + 1, h => by
    simp only [totF]
    rw [totF_pull n (fun i => f (i + 1)) j (by omega)]
    have : totF (fun i => if i + 1 = j + 1 then 0 else f (i + 1)) n = totF (fun i => if i = j then 0 else f (i + 1)) n := totF_congr n _ _ fun i _ => by simp
    rw [this]; simp; omega
theorem sumL_congr : ∀ (js : List Nat) (f g : Nat → Nat), (∀ i ∈ js, f i = g i) → sumL f js = sumL g js
  | [], _, _, _ => rfl
  | j :: r, f, g, h => by simp only [sumL]; rw [h j (by simp), sumL_congr r f g (fun i hi => h i (by simp [hi]))]
theorem tot_split : ∀ (js : List Nat) (n : Nat) (f : Nat → Nat), js.Nodup → (∀ j ∈ js, j < n) → totF f n = sumL f js + totF (fun i => if i ∈ js then 0 else f i) n
  | [], n, f, _, _ => by simp [sumL]
  | j :: r, n, f, hnd, hlt => by
    rw [List.nodup_cons] at hnd
    rw [totF_pull n f j (hlt j (by simp)), tot_split r n _ hnd.2 (fun i hi => hlt i (by simp [hi]))]
    have e1 : sumL (fun i => if i = j then 0 else f i) r = sumL f r := sumL_congr r _ _ fun i hi => by
      have : i ≠ j := by rintro rfl; exact hnd.1 hi
      simp [this]
    have e2 : totF (fun i => if i ∈ r then 0 else if i = j then 0 else f i) n = totF (fun i => if i ∈ j :: r then 0 else f i) n := totF_congr n _ _ fun i _ => by
      by_cases h1 : i ∈ r <;> by_cases h2 : i = j <;> simp [h1, h2]
    rw [e1, e2]; simp only [sumL]; omega
theorem totF_pos : ∀ (n : Nat) (f : Nat → Nat), 0 < totF f n → ∃ i, i < n ∧ 0 < f i
  | 0, _, h => by simp [totF] at h
  | n + 1, f, h => by
    simp only [totF] at h
    by_cases h0 : 0 < f 0
    · exact ⟨0, by omega, h0⟩
    · obtain ⟨i, hi, hf⟩ := totF_pos n (fun i => f (i + 1)) (by omega)
      exact ⟨i + 1, by omega, hf⟩
theorem totF_le_of : ∀ (n : Nat) (f : Nat → Nat) (i : Nat), i < n → f i ≤ totF f n := by
  intro n f i hi
  rw [totF_pull n f i hi]; omega
end sums

section
variable {c : Cfg} {E : Ent} {w w' : World} {G G' : Gh} {μ : List Nat} {R : Type}

/-- What an object holds of a block. -/
def wt (w : World) (objs : List Ob) (μ : List Nat) (b i : Nat) : Nat :=
  cnt b (leafOb w (objs.getD i .dead) (μ.getD i 0)) + (if μ.getD i 0 = b then 1 else 0)

theorem wt_tot (b : Nat) : ∀ (objs : List Ob) (μ : List Nat), objs.length = μ.length → cnt b (leafO w objs μ) + μ.count b = totF (wt w objs μ b) objs.length
  | [], [], _ => rfl
  | [], _ :: _, h => by simp at h
  | _ :: _, [], h => by simp at h
  | o :: os, m :: ms, h => by
    have ih := wt_tot b os ms (by simpa using h)
    rw [leafO_cons, cnt_append, List.count_cons, List.length_cons]
    simp only [totF]
    have e0 : wt w (o :: os) (m :: ms) b 0 = cnt b (leafOb w o m) + (if m = b then 1 else 0) := by simp [wt]
    have e1 : (fun i => wt w (o :: os) (m :: ms) b (i + 1)) = wt w os ms b := by funext i; simp [wt]
    rw [e0, e1, ← ih]
    have : (if (m == b) = true then 1 else 0) = (if m = b then 1 else 0 : Nat) := by simp
    rw [this]; omega

theorem wt_sum (b : Nat) (objs : List Ob) (μ : List Nat) : ∀ js : List Nat,
    cnt b (leafO w (js.map fun j => objs.getD j .dead) (js.map fun j => μ.getD j 0)) + (js.map fun j => μ.getD j 0).count b = sumL (wt w objs μ b) js
  | [] => rfl
  | j :: r => by
    have ih := wt_sum b objs μ r
    simp only [List.map_cons]
    rw [leafO_cons, cnt_append, List.count_cons]
    simp only [sumL]
    rw [← ih]
    have : (if (μ.getD j 0 == b) = true then 1 else 0) = (if μ.getD j 0 = b then 1 else 0 : Nat) := by simp
    rw [this]; simp only [wt]; omega

theorem leafO_mem {l : Leaf} : ∀ (objs : List Ob) (μ : List Nat), l ∈ leafO w objs μ → ∃ i, i < objs.length ∧ i < μ.length ∧ l ∈ leafOb w (objs.getD i .dead) (μ.getD i 0)
  | [], _, h => by simp [leafO] at h
  | _ :: _, [], h => by simp [leafO] at h
  | o :: os, m :: ms, h => by
    rw [leafO_cons, List.mem_append] at h
    rcases h with h | h
    · exact ⟨0, by simp, by simp, by simpa using h⟩
    · obtain ⟨i, h1, h2, h3⟩ := leafO_mem os ms h
      exact ⟨i + 1, by simp; omega, by simp; omega, by simpa using h3⟩

/-! Other names. -/

theorem renL_get (ρ : Nat → Nat) : ∀ (cs : List V) (i : Nat), (V.renL ρ cs)[i]? = (cs[i]?).map (V.ren ρ)
  | [], i => by simp [V.renL]
  | v :: r, 0 => by simp [V.renL]
  | v :: r, i + 1 => by simp [V.renL, renL_get ρ r i]
theorem renL_length (ρ : Nat → Nat) : ∀ (cs : List V), (V.renL ρ cs).length = cs.length
  | [] => rfl
  | v :: r => by simp [V.renL, renL_length ρ r]
theorem leaf1_ren (ρ : Nat → Nat) (v : V) (x : Value) : leaf1 (v.ren ρ) x = leaf1 v x := by cases v <;> simp [V.ren, leaf1]
theorem zipF_ren (f : V → Value → List Leaf) (ρ : Nat → Nat) (hf : ∀ v x, f (v.ren ρ) x = f v x) : ∀ (vs : List V) (xs : List Value), zipF f (V.renL ρ vs) xs = zipF f vs xs
  | [], _ => by simp [V.renL, zipF]
  | _ :: _, [] => by simp [V.renL, zipF]
  | v :: vs, x :: xs => by simp [V.renL, zipF, hf, zipF_ren f ρ hf vs xs]
theorem leaf2_ren (ρ : Nat → Nat) (v : V) (x : Value) : leaf2 (v.ren ρ) x = leaf2 v x := by
  cases v with
  | agg cs => cases x <;> simp only [V.ren, leaf2, leaf1]; exact zipF_ren leaf1 ρ (leaf1_ren ρ) _ _
  | _ => cases x <;> simp [V.ren, leaf2, leaf1]
theorem leaf3_ren (ρ : Nat → Nat) (v : V) (x : Value) : leaf3 (v.ren ρ) x = leaf3 v x := by
  cases v with
  | tup cs => cases x <;> simp only [V.ren, leaf3, leaf2, leaf1]; exact zipF_ren leaf2 ρ (leaf2_ren ρ) _ _
  | agg cs => cases x <;> (simp only [V.ren, leaf3]; exact leaf2_ren ρ (.agg cs) _)
  | _ => cases x <;> simp [V.ren, leaf3, leaf2, leaf1]
theorem leafOb_ren (ρ : Nat → Nat) (o : Ob) (b : Nat) : leafOb w (o.ren ρ) b = leafOb w o b := by
  cases o with
  | cells cs => simp only [Ob.ren, leafOb]; exact zipF_ren leaf1 ρ (leaf1_ren ρ) _ _
  | _ => rfl
theorem leafO_ren (ρ : Nat → Nat) : ∀ (os : List Ob) (bs : List Nat), leafO w (os.map (Ob.ren ρ)) bs = leafO w os bs
  | [], _ => by simp [leafO]
  | _ :: _, [] => by simp [leafO]
  | o :: os, b :: bs => by rw [List.map_cons, leafO_cons, leafO_cons, leafOb_ren, leafO_ren ρ os bs]

theorem refsL_mem : ∀ (cs : List V) (i : Nat) (v : V) (k : Nat), cs[i]? = some v → k ∈ v.refs → k ∈ V.refsL cs
  | [], i, v, k, h, _ => by simp at h
  | a :: r, 0, v, k, h, hk => by simp at h; subst h; simp [V.refsL, hk]
  | a :: r, i + 1, v, k, h, hk => by
    simp at h
    simp only [V.refsL, List.mem_append]
    exact .inr (refsL_mem r i v k h hk)

theorem ObRep.mapped {o : Ob} {b : Nat} {μ' : List Nat} (h : ObRep c w G μ o b) (ρ : Nat → Nat) (hm : ∀ i b, i ∈ o.refs → μ[i]? = some b → μ'[ρ i]? = some b) : ObRep c w G μ' (o.ren ρ) b := by
  cases o with
  | cells cs =>
    obtain ⟨l, e, fr, h1, h2, h3, h4, h5⟩ := h
    refine ⟨l, e, fr, h1, h2, by rw [renL_length]; exact h3, h4, fun i v x hv hx => ?_⟩
    rw [renL_get] at hv
    obtain ⟨u, hu, rfl⟩ := Option.map_eq_some_iff.1 hv
    exact (h5 i u x hu hx).mapped ρ fun k b hk hb => hm k b (refsL_mem cs i u k hu hk) hb
  | sit s p => exact h
  | mp kd vd es => exact h
  | dead => trivial

theorem nodupB_spec : ∀ (l : List Nat), nodupB l = true → l.Nodup
  | [], _ => List.nodup_nil
  | x :: r, h => by
    simp only [nodupB, Bool.and_eq_true, Bool.not_eq_true', List.contains_eq_mem, decide_eq_false_iff_not] at h
    exact List.nodup_cons.2 ⟨h.1, nodupB_spec r h.2⟩

theorem obRefs_mem : ∀ (os : List Ob) (i : Nat) (o : Ob) (k : Nat), os[i]? = some o → k ∈ o.refs → k ∈ obRefs os
  | [], i, o, k, h, _ => by simp at h
  | a :: r, 0, o, k, h, hk => by simp at h; subst h; simp [obRefs, hk]
  | a :: r, i + 1, o, k, h, hk => by
    simp at h
    simp only [obRefs, List.mem_append]
    exact .inr (obRefs_mem r i o k h hk)

theorem backObK_eq : ∀ (js : List Nat) (os objs : List Ob) (K : List Ob → Option R), js.length = os.length → js.Nodup → (∀ j ∈ js, j < objs.length) →
    ∃ objs', backObK js os objs K = K objs' ∧ objs'.length = objs.length ∧ (∀ (k : Nat) j o, js[k]? = some j → os[k]? = some o → objs'[j]? = some o) ∧ ∀ i, i ∉ js → objs'[i]? = objs[i]?
  | [], os, objs, K, _, _, _ => ⟨objs, rfl, rfl, fun k j o h => by simp at h, fun _ _ => rfl⟩
  | j :: js, [], objs, K, h, _, _ => by simp at h
  | j :: js, o :: os, objs, K, h, hnd, hlt => by
    rw [List.nodup_cons] at hnd
    obtain ⟨objs', h1, h2, h3, h4⟩ := backObK_eq js os (objs.set j o) K (by simpa using h) hnd.2 (fun i hi => by simpa using hlt i (by simp [hi]))
    refine ⟨objs', ?_, by simpa using h2, fun k j' o' hj ho => ?_, fun i hi => ?_⟩
    · simp only [backObK, setK_eq]; exact h1
    · cases k with
      | zero =>
        simp at hj ho; subst hj; subst ho
        rw [h4 j hnd.1, List.getElem?_set_self (hlt j (by simp))]
      | succ k => exact h3 k j' o' (by simpa using hj) (by simpa using ho)
    · simp only [List.mem_cons, not_or] at hi
      rw [h4 i hi.2, List.getElem?_set_ne (Ne.symm hi.1)]

theorem ren_ren (ρ σ : Nat → Nat) (v : V) : (v.ren σ).ren ρ = v.ren (fun i => ρ (σ i)) := by
  have key : ∀ n : Nat, ∀ v : V, SizeOf.sizeOf v ≤ n → (v.ren σ).ren ρ = v.ren (fun i => ρ (σ i)) := by
    intro n
    induction n with
    | zero => intro v hv; cases v <;> simp at hv
    | succ n ih =>
      have ihL : ∀ cs : List V, SizeOf.sizeOf cs ≤ n → V.renL ρ (V.renL σ cs) = V.renL (fun i => ρ (σ i)) cs := by
        intro cs
        induction cs with
        | nil => intros; rfl
        | cons a r ih2 =>
          intro hs
          simp only [List.cons.sizeOf_spec] at hs
          simp only [V.renL, ih a (by omega), ih2 (by omega)]
      intro v hv
      cases v with
      | agg cs => simp at hv; simp only [V.ren, ihL cs (by omega)]
      | tup cs => simp at hv; simp only [V.ren, ihL cs (by omega)]
      | cpt cs => simp at hv; simp only [V.ren, ihL cs (by omega)]
      | clo f a b => simp at hv; simp only [V.ren, ihL a (by omega), ihL b (by omega)]
      | ifc t u => simp at hv; simp only [V.ren, ih u (by omega)]
      | _ => rfl
  exact key _ v (Nat.le_refl _)

theorem ob_back (ρ σ : Nat → Nat) (o : Ob) (h : ∀ i ∈ o.refs, ρ (σ i) = i) : (o.ren σ).ren ρ = o := by
  cases o with
  | cells cs =>
    simp only [Ob.ren]
    congr 1
    apply List.ext_getElem?
    intro j
    rw [renL_get, renL_get]
    cases hj : cs[j]? with
    | none => rfl
    | some v =>
      simp only [Option.map_some, ren_ren]
      rw [ren_id _ v fun i hi => h i (refsL_mem cs j v i hj hi)]
  | _ => rfl

theorem set_self {α : Type} {l : List α} {i : Nat} {x : α} (h : l[i]? = some x) : l.set i x = l := by
  apply List.ext_getElem?
  intro j
  by_cases hj : i = j
  · subst hj; rw [List.getElem?_set_self (List.getElem?_eq_some_iff.1 h).1, h]
  · rw [List.getElem?_set_ne hj]

theorem backObK_id : ∀ (js : List Nat) (os objs : List Ob) (K : List Ob → Option R), (∀ (k : Nat) j o, js[k]? = some j → os[k]? = some o → objs[j]? = some o) → backObK js os objs K = K objs
  | [], _, _, _, _ => by simp [backObK]
  | _ :: _, [], _, _, _ => by simp [backObK]
  | j :: js, o :: os, objs, K, h => by
    simp only [backObK, setK_eq]
    rw [set_self (h 0 j o rfl rfl)]
    exact backObK_id js os objs K fun k j' o' hj ho => h (k + 1) j' o' (by simpa using hj) (by simpa using ho)

/-! What fits is its own reading. -/

theorem etaRs_of : ∀ (l : List RSh) (cs : List V), fitsRs l cs = true → etaRs l cs = cs
  | [], [], _ => rfl
  | [], _ :: _, h => by simp [fitsRs] at h
  | _ :: _, [], h => by simp [fitsRs] at h
  | s :: r, v :: cs, h => by
    simp only [fitsRs, Bool.and_eq_true] at h
    simp [etaRs, (RSh.eta_of h.1).1, etaRs_of r cs h.2]
theorem etaRes_of {l : List RSh} {v : V} (h : fitsRes l v = true) : etaRes l v = v := by
  unfold fitsRes at h
  split at h
  · simp only [etaRes]; exact (RSh.eta_of h).1
  · rename_i cs hne
    have : etaRes l (.tup cs) = .tup (etaRs l cs) := by
      unfold etaRes
      split
      · exact absurd rfl (hne _)
      · rfl
    rw [this, etaRs_of l cs h]
  · cases h
theorem OSh.eta_of {s : OSh} {o : Ob} (h : s.fits o = true) : s.eta o = o := by
  cases s <;> cases o <;> simp_all [OSh.fits, OSh.eta, Ob.getC, Ob.getM, Ob.getS, Ob.getP]
  exact (etaCells_of _ _ h).1
theorem etaObs_of : ∀ (l : List OSh) (os : List Ob), fitsObs l os = true → etaObs l os = os ∧ os.length = l.length
  | [], [], _ => ⟨rfl, rfl⟩
  | [], _ :: _, h => by simp [fitsObs] at h
  | _ :: _, [], h => by simp [fitsObs] at h
  | s :: r, o :: os, h => by
    simp only [fitsObs, Bool.and_eq_true] at h
    obtain ⟨h1, h2⟩ := etaObs_of r os h.2
    simp [etaObs, OSh.eta_of h.1, h1, h2]

def entry (w : World) (G : Gh) (μ : List Nat) (args : List V) (cargs : List Value) (objs : List Ob) : Ent :=
  ⟨w, G, fun b => 0 < cnt b (zipF leaf3 args cargs) + cnt b (leafO w objs μ) + μ.count b, μ⟩

/-- What the plain reading says of a function, the model does. -/
def FunOk (c : Cfg) (f : FuncId) (F : Fun) : Prop :=
  (∀ args objs v objs', (c.ro f = true ∨ (c.pur f = true ∧ objs = [])) → F args objs = some (v, objs') → objs' = objs) ∧ ∀ fn rsh, c.fn f = some fn → rshOf c fn (c.rtip f) = some rsh → ∀ args objs v objs', F args objs = some (v, objs') →
    ∀ w G μ cargs, cargs.length = args.length → Inv c w G μ args cargs objs →
      fitsRes rsh v = true ∧ fitsObs (objs.map OSh.of) objs' = true ∧ Calls c.P f cargs.toArray w fun e w' => ∃ u G', e = .returned u ∧ Sim c (entry w G μ args cargs objs) w' G' μ [v] [u] objs'

theorem callOut_ok {call : FuncId → Fun} {f : FuncId} (hcall : FunOk c f (call f)) {rsh : List RSh} {args : List V} {S : St} {K : V → St → Option R} {r : R} {fn : Func}
    (hfn : c.fn f = some fn) (hrsh : rshOf c fn (c.rtip f) = some rsh) (h : callOut c call rsh f args S K = some r) {cargs tmps : List Value} (hlen : cargs.length = args.length)
    (hS : Sim c E w G μ (args ++ S.env) (cargs ++ tmps) S.objs) :
    Calls c.P f cargs.toArray w fun e w' => ∃ u, e = .returned u ∧ Went c E K r tmps u w' := by
  obtain ⟨hro, hcall⟩ := hcall
  obtain ⟨env, objs⟩ := S
  unfold callOut at h
  simp only at h hS
  generalize reach objs 100 (V.refsL args) [] = js at h
  split at h
  case isFalse => cases h
  rename_i hcnd
  simp only [Bool.and_eq_true, List.all_eq_true, decide_eq_true_eq, List.contains_eq_mem] at hcnd
  obtain ⟨⟨⟨⟨hlt, hnd⟩, hargs⟩, hobr⟩, hpur⟩ := hcnd
  have hnd := nodupB_spec js hnd
  obtain ⟨⟨v, out⟩, hcl, hk⟩ := Option.bind_eq_some_iff.1 h
  clear h
  have hsubeq : (js.map fun j => (St.ob ⟨env, objs⟩ j).ren fun i => js.idxOf i) = (js.map fun j => objs.getD j .dead).map (Ob.ren fun i => js.idxOf i) := by simp [St.ob]
  rw [hsubeq] at hcl hk
  simp only at hk
  generalize hto : (fun i => js.idxOf i) = to at hcl hk
  generalize hback : (fun i => js.getD i 0) = back at hk
  generalize hsub : (js.map fun j => objs.getD j .dead).map (Ob.ren to) = sub at hcl hk
  have hsublen : sub.length = js.length := by rw [← hsub]; simp
  generalize hμs : (js.map fun j => μ.getD j 0) = μs
  have hμsl : μs.length = js.length := by rw [← hμs]; simp
  have hol := hS.inv.olen
  have hidx : ∀ i ∈ js, js[to i]? = some i := by
    intro i hi
    rw [← hto]
    have hl := List.idxOf_lt_length_iff.2 hi
    rw [List.getElem?_eq_getElem hl, List.getElem_idxOf]
  have hto' : ∀ i b, i ∈ js → μ[i]? = some b → μs[to i]? = some b := by
    intro i b hi hb
    rw [← hμs, List.getElem?_map, hidx i hi]
    simp [List.getD, hb]
  have hback' : ∀ i b, μs[i]? = some b → μ[back i]? = some b := by
    intro i b hb
    rw [← hμs] at hb
    obtain ⟨j, hj, rfl⟩ := get_map hb
    rw [← hback]
    have hjl := hlt j (List.mem_of_getElem? hj)
    have : js.getD i 0 = j := by simp [List.getD, hj]
    simp only [this]
    have : j < μ.length := by omega
    simp [List.getD, List.getElem?_eq_getElem this]
  -- sums
  have hzz : zipF leaf3 (args ++ env) (cargs ++ tmps) = zipF leaf3 args cargs ++ zipF leaf3 env tmps := zipF_append leaf3 _ _ _ _ hlen.symm
  have hargl : zipF leaf3 (V.renL to args) cargs = zipF leaf3 args cargs := zipF_ren leaf3 to (leaf3_ren to) _ _
  have hsubsum : ∀ b, cnt b (leafO w sub μs) + μs.count b = sumL (wt w objs μ b) js := by
    intro b
    rw [← wt_sum, ← hsub, leafO_ren, hμs]
  have htot : ∀ b, cnt b (leafO w objs μ) + μ.count b = (cnt b (leafO w sub μs) + μs.count b) + totF (fun i => if i ∈ js then 0 else wt w objs μ b i) objs.length := by
    intro b
    rw [wt_tot b objs μ hol, hsubsum, tot_split js objs.length _ hnd hlt]
  have hone : ∀ b, (cnt b (zipF leaf3 args cargs) + (cnt b (leafO w sub μs) + μs.count b)) + (cnt b (zipF leaf3 env tmps) + totF (fun i => if i ∈ js then 0 else wt w objs μ b i) objs.length) ≤ 1 := by
    intro b
    have := hS.inv.one b
    rw [hzz, cnt_append] at this
    have := htot b
    omega
  have hsubget : ∀ (i : Nat) o, sub[i]? = some o → ∃ j, js[i]? = some j ∧ o = (objs.getD j .dead).ren to ∧ j < objs.length ∧ objs[j]? = some (objs.getD j .dead) := by
    intro i o ho
    rw [← hsub] at ho
    obtain ⟨o1, h1, rfl⟩ := get_map ho
    obtain ⟨j, hj, rfl⟩ := get_map h1
    have hjl := hlt j (List.mem_of_getElem? hj)
    exact ⟨j, hj, rfl, hjl, by simp [List.getD, List.getElem?_eq_getElem hjl]⟩
  have hinv : Inv c w G μs (V.renL to args) cargs sub := by
    refine ⟨by rw [renL_length]; omega, fun i u x hu hx => ?_, by rw [hsublen, hμsl], fun i o b ho hb => ?_, fun b => ?_, fun l hl => ?_, fun b hb => ?_, hS.inv.none⟩
    · rw [renL_get] at hu
      obtain ⟨v0, hv0, rfl⟩ := Option.map_eq_some_iff.1 hu
      have hil := (List.getElem?_eq_some_iff.1 hv0).1
      refine (hS.inv.rep i v0 x (by rw [List.getElem?_append_left hil]; exact hv0) (by rw [List.getElem?_append_left (by omega)]; exact hx)).mapped to fun k b hk hb => ?_
      exact hto' k b (hargs k (refsL_mem args i v0 k hv0 hk)) hb
    · obtain ⟨j, hj, rfl, hjl, hjo⟩ := hsubget i o ho
      have hbj := hback' i b hb
      have hbi : back i = j := by rw [← hback]; simp [List.getD, hj]
      rw [hbi] at hbj
      refine (hS.inv.obs j _ b hjo hbj).mapped to fun k b' hk hb' => hto' k b' (hobr k (obRefs_mem _ i (objs.getD j .dead) k ?_ hk)) hb'
      simp [St.ob, hj]
    · rw [hargl]; have := hone b; omega
    · rw [hargl] at hl
      refine hS.inv.ok l ?_
      rw [hzz]
      simp only [List.mem_append] at hl ⊢
      rcases hl with hl | hl
      · exact .inl (.inl hl)
      · refine .inr ?_
        obtain ⟨i, h1, h2, h3⟩ := leafO_mem sub μs hl
        have hs : sub[i]? = some (sub.getD i .dead) := by simp [List.getD, List.getElem?_eq_getElem h1]
        obtain ⟨j, hj, he, hjl, hjo⟩ := hsubget i _ hs
        have hm : μs[i]? = some (μs.getD i 0) := by simp [List.getD, List.getElem?_eq_getElem h2]
        have hbj := hback' i _ hm
        have hbi : back i = j := by rw [← hback]; simp [List.getD, hj]
        rw [hbi] at hbj
        rw [he, leafOb_ren] at h3
        exact leafOb_sub w objs μ j _ _ hjo hbj h3
    · obtain ⟨i, hi⟩ := List.getElem?_of_mem hb
      exact hS.inv.mine b (List.mem_of_getElem? (hback' i b hi))
  obtain ⟨hfv, hfo, hrun⟩ := hcall fn rsh hfn hrsh _ _ _ _ hcl w G μs cargs (by rw [renL_length]; exact hlen) hinv
  obtain ⟨heo, holen⟩ := etaObs_of _ _ hfo
  rw [heo, etaRes_of hfv] at hk
  replace hk : backObK js (out.map (Ob.ren back)) objs (fun objs => K (v.ren back) ⟨env, objs⟩) = some r := by
    cases hr : c.still f with
    | false => rw [hr] at hk; exact hk
    | true =>
      rw [hr] at hk
      have he := hro _ _ _ _ (by
        simp only [Cfg.still, Bool.or_eq_true] at hr
        rcases hr with hr | hr
        · exact .inl hr
        · refine .inr ⟨hr, ?_⟩
          have hj : js = [] := by simpa [hr] using hpur
          rw [← hsub, hj]; rfl) hcl
      rw [backObK_id js _ objs _ fun k j o hj ho => ?_]
      · exact hk
      · obtain ⟨o1, h1, rfl⟩ := get_map ho
        rw [he] at h1
        obtain ⟨j', hj', rfl, hjl, hjo⟩ := hsubget k o1 h1
        rw [hj] at hj'; cases hj'
        rw [ob_back back to _ fun i hi => ?_]
        · exact hjo
        · have hij := hobr i (obRefs_mem _ k (objs.getD j .dead) i (by simp [St.ob, hj]) hi)
          have := hidx i hij
          rw [← hback]; simp [List.getD, this]
  have holen' : out.length = js.length := by rw [holen]; simpa using hsublen
  refine Calls.mono hrun ?_
  rintro e w' ⟨u, G', rfl, hs⟩
  refine ⟨u, rfl, ?_⟩
  obtain ⟨objs', hbk, hol', hin, hout⟩ := backObK_eq js (out.map (Ob.ren back)) objs (fun objs => K (v.ren back) ⟨env, objs⟩) (by simpa using holen'.symm) hnd hlt
  rw [hbk] at hk
  refine ⟨_, _, G', μ, hk, ?_⟩
  -- blocks that stay as they were
  have hU : ∀ b, (entry w G μs (V.renL to args) cargs sub).U b ↔ 0 < cnt b (zipF leaf3 args cargs) + (cnt b (leafO w sub μs) + μs.count b) := by
    intro b; simp only [entry, hargl]; omega
  have hkeep : ∀ b, b < w.heap.size → 0 < cnt b (zipF leaf3 env tmps) + totF (fun i => if i ∈ js then 0 else wt w objs μ b i) objs.length → w'.heap[b]? = w.heap[b]? ∧ G' b = G b := by
    intro b hb hp
    refine hs.stp.keep b hb ?_
    rw [hU]; have := hone b; omega
  have hrestb : ∀ i, i < objs.length → i ∉ js → w'.heap[μ.getD i 0]? = w.heap[μ.getD i 0]? ∧ G' (μ.getD i 0) = G (μ.getD i 0) ∧ μ[i]? = some (μ.getD i 0) ∧ μ.getD i 0 < w.heap.size := by
    intro i hi hij
    have him : i < μ.length := by omega
    have h1 : μ[i]? = some (μ.getD i 0) := by simp [List.getD, List.getElem?_eq_getElem him]
    have h2 := (hS.inv.mine _ (List.mem_of_getElem? h1)).1
    have h3 := hkeep (μ.getD i 0) h2 (by
      have := totF_le_of objs.length (fun k => if k ∈ js then 0 else wt w objs μ (μ.getD i 0) k) i hi
      simp only [if_neg hij] at this
      have h4 : 1 ≤ wt w objs μ (μ.getD i 0) i := by simp [wt]
      omega)
    exact ⟨h3.1, h3.2, h1, h2⟩
  have hwt : ∀ b i, i < objs.length → i ∉ js → wt w' objs' μ b i = wt w objs μ b i := by
    intro b i hi hij
    have h1 := (hrestb i hi hij).1
    have h2 : objs'.getD i .dead = objs.getD i .dead := by simp [List.getD, hout i hij]
    have h3 : leafOb w' (objs.getD i .dead) (μ.getD i 0) = leafOb w (objs.getD i .dead) (μ.getD i 0) := by
      unfold leafOb cellsAt; rw [h1]
    simp only [wt, h2, h3]
  have hjsmap : (js.map fun j => objs'.getD j .dead) = out.map (Ob.ren back) := by
    apply List.ext_getElem?
    intro k
    rw [List.getElem?_map, List.getElem?_map]
    cases hj : js[k]? with
    | none =>
      have : out[k]? = none := by
        rw [List.getElem?_eq_none_iff] at hj ⊢; omega
      simp [this]
    | some j =>
      have hkl := (List.getElem?_eq_some_iff.1 hj).1
      have ho : out[k]? = some out[k] := List.getElem?_eq_getElem (by omega)
      have := hin k j (out[k].ren back) hj (by rw [List.getElem?_map, ho]; rfl)
      simp [List.getD, this, ho]
  have htot' : ∀ b, cnt b (leafO w' objs' μ) + μ.count b = (cnt b (leafO w' out μs) + μs.count b) + totF (fun i => if i ∈ js then 0 else wt w objs μ b i) objs.length := by
    intro b
    rw [wt_tot b objs' μ (by omega), hol', tot_split js objs.length _ hnd hlt, ← wt_sum, hjsmap, hμs, leafO_ren]
    congr 1
    refine totF_congr _ _ _ fun i hi => ?_
    by_cases hij : i ∈ js
    · simp [hij]
    · simp only [if_neg hij]; exact hwt b i hi hij
  have hlive : ∀ b, 0 < cnt b (zipF leaf3 env tmps) + totF (fun i => if i ∈ js then 0 else wt w objs μ b i) objs.length → b < w.heap.size := by
    intro b hp
    by_cases h1 : 0 < cnt b (zipF leaf3 env tmps)
    · obtain ⟨l, hl, rfl⟩ := cnt_pos.1 h1
      exact (hS.inv.ok l (by rw [hzz]; simp [hl])).lt
    · obtain ⟨i, hi, hp⟩ := totF_pos objs.length (fun i => if i ∈ js then 0 else wt w objs μ b i) (by omega)
      by_cases hij : i ∈ js
      · simp [hij] at hp
      · simp only [if_neg hij] at hp
        obtain ⟨_, _, hm, h2⟩ := hrestb i hi hij
        unfold wt at hp
        by_cases hb : μ.getD i 0 = b
        · rw [← hb]; exact h2
        · simp only [if_neg hb, Nat.add_zero] at hp
          obtain ⟨l, hl, rfl⟩ := cnt_pos.1 hp
          have hjo : objs[i]? = some (objs.getD i .dead) := by simp [List.getD, List.getElem?_eq_getElem hi]
          exact (hS.inv.ok l (by rw [List.mem_append]; exact .inr (leafOb_sub w objs μ i _ _ hjo hm hl))).lt
  have hvz : ∀ b, cnt b (zipF leaf3 [v] [u]) = cnt b (leaf3 v u) := by intro b; simp [zipF]
  have hsplit : ∀ b, cnt b (zipF leaf3 (v.ren back :: env) (u :: tmps)) + cnt b (leafO w' objs' μ) + μ.count b =
      (cnt b (zipF leaf3 [v] [u]) + cnt b (leafO w' out μs) + μs.count b) + (cnt b (zipF leaf3 env tmps) + totF (fun i => if i ∈ js then 0 else wt w objs μ b i) objs.length) := by
    intro b
    have e : zipF leaf3 (v.ren back :: env) (u :: tmps) = leaf3 v u ++ zipF leaf3 env tmps := by simp [zipF, leaf3_ren]
    rw [e, cnt_append, hvz]
    have := htot' b
    omega
  have hentry : ∀ b, b < w.heap.size → 0 < cnt b (zipF leaf3 [v] [u]) + cnt b (leafO w' out μs) + μs.count b → 0 < cnt b (zipF leaf3 args cargs) + (cnt b (leafO w sub μs) + μs.count b) := fun b hb hp => (hU b).1 (hs.own b hb hp)
  have hold : ∀ b, b < w.heap.size → 0 < cnt b (zipF leaf3 args cargs) + (cnt b (leafO w sub μs) + μs.count b) → b < E.w.heap.size → E.U b := by
    intro b _ hp hb
    refine hS.own b hb ?_
    rw [hzz, cnt_append]
    have := htot b
    omega
  refine ⟨⟨?_, ?_, by rw [hol', hol], ?_, ?_, ?_, ?_, hs.inv.none⟩, ⟨Nat.le_trans hS.stp.size hs.stp.size, hS.stp.sealed.trans hs.stp.sealed, ?_, hs.stp.os.trans hS.stp.os, hs.stp.out.trans hS.stp.out, hs.stp.tape.trans hS.stp.tape⟩, ?_, hS.pre⟩
  · have := hS.inv.len
    simp at this ⊢
    omega
  · intro i v0 x hv hx
    cases i with
    | zero =>
      simp at hv hx; subst hv; subst hx
      exact (hs.inv.rep 0 v u rfl rfl).mapped back fun k b _ hb => hback' k b hb
    | succ i =>
      simp only [List.getElem?_cons_succ] at hv hx
      refine (hS.inv.rep (args.length + i) v0 x ?_ ?_).mono hs.stp.sealed
      · rw [List.getElem?_append_right (by omega)]; simpa using hv
      · rw [List.getElem?_append_right (by omega), hlen]; simpa using hx
  · intro i o b ho hb
    by_cases hij : i ∈ js
    · have hk1 := hidx i hij
      have hkl := (List.getElem?_eq_some_iff.1 hk1).1
      have ho1 : out[to i]? = some out[to i] := List.getElem?_eq_getElem (by omega)
      have h2 := hin (to i) i (out[to i].ren back) hk1 (by rw [List.getElem?_map, ho1]; rfl)
      rw [h2] at ho; cases ho
      exact (hs.inv.obs (to i) _ b ho1 (hto' i b hij hb)).mapped back fun k b' _ hb' => hback' k b' hb'
    · rw [hout i hij] at ho
      have hi := (List.getElem?_eq_some_iff.1 ho).1
      obtain ⟨h1, h2, h3, h4⟩ := hrestb i hi hij
      rw [h3] at hb; cases hb
      exact (hS.inv.obs i o _ ho h3).mono hs.stp.sealed h1
  · intro b
    rw [hsplit]
    have h1 := hs.inv.one b
    have h2 := hone b
    by_cases hp : 0 < cnt b (zipF leaf3 env tmps) + totF (fun i => if i ∈ js then 0 else wt w objs μ b i) objs.length
    · have hb := hlive b hp
      have := hentry b hb
      omega
    · omega
  · intro l hl
    have e : zipF leaf3 (v.ren back :: env) (u :: tmps) = leaf3 v u ++ zipF leaf3 env tmps := by simp [zipF, leaf3_ren]
    rw [e] at hl
    have hrestok : l ∈ zipF leaf3 env tmps ++ leafO w objs μ → w'.heap[l.a.block]? = w.heap[l.a.block]? → G' l.a.block = G l.a.block → OkLeaf c w' G' l := by
      intro hl h1 h2
      refine (hS.inv.ok l ?_).same h1 h2
      rw [hzz]
      simp only [List.mem_append] at hl ⊢
      rcases hl with hl | hl
      · exact .inl (.inr hl)
      · exact .inr hl
    simp only [List.mem_append] at hl
    rcases hl with (hl | hl) | hl
    · exact hs.inv.ok l (by simp [zipF, hl])
    · have hp : 0 < cnt l.a.block (zipF leaf3 env tmps) := cnt_pos.2 ⟨l, hl, rfl⟩
      have hb := hlive l.a.block (by omega)
      have := hkeep l.a.block hb (by omega)
      exact hrestok (by simp [hl]) this.1 this.2
    · obtain ⟨i, h1, h2, h3⟩ := leafO_mem objs' μ hl
      have hi : i < objs.length := by omega
      by_cases hij : i ∈ js
      · have hk1 := hidx i hij
        have hkl := (List.getElem?_eq_some_iff.1 hk1).1
        have ho1 : out[to i]? = some out[to i] := List.getElem?_eq_getElem (by omega)
        have h4 := hin (to i) i (out[to i].ren back) hk1 (by rw [List.getElem?_map, ho1]; rfl)
        have h5 : objs'.getD i .dead = out[to i].ren back := by simp [List.getD, h4]
        have h6 : μ[i]? = some (μ.getD i 0) := by simp [List.getD, List.getElem?_eq_getElem h2]
        rw [h5, leafOb_ren] at h3
        exact hs.inv.ok l (by rw [List.mem_append]; exact .inr (leafOb_sub w' out μs (to i) _ _ ho1 (hto' i _ hij h6) h3))
      · obtain ⟨g1, g2, g3, g4⟩ := hrestb i hi hij
        have h5 : objs'.getD i .dead = objs.getD i .dead := by simp [List.getD, hout i hij]
        have h6 : leafOb w' (objs.getD i .dead) (μ.getD i 0) = leafOb w (objs.getD i .dead) (μ.getD i 0) := by
          unfold leafOb cellsAt; rw [g1]
        rw [h5, h6] at h3
        have hp : 0 < wt w objs μ l.a.block i := by
          have : 0 < cnt l.a.block (leafOb w (objs.getD i .dead) (μ.getD i 0)) := cnt_pos.2 ⟨l, h3, rfl⟩
          unfold wt; omega
        have hp2 : 0 < totF (fun i => if i ∈ js then 0 else wt w objs μ l.a.block i) objs.length := by
          have := totF_le_of objs.length (fun i => if i ∈ js then 0 else wt w objs μ l.a.block i) i hi
          simp only [if_neg hij] at this
          omega
        have hb := hlive l.a.block (by omega)
        have := hkeep l.a.block hb (by omega)
        have hjo : objs[i]? = some (objs.getD i .dead) := by simp [List.getD, List.getElem?_eq_getElem hi]
        exact hrestok (by rw [List.mem_append]; exact .inr (leafOb_sub w objs μ i _ _ hjo g3 h3)) this.1 this.2
  · intro b hb
    obtain ⟨i, hi⟩ := List.getElem?_of_mem hb
    by_cases hij : i ∈ js
    · exact hs.inv.mine b (List.mem_of_getElem? (hto' i b hij hi))
    · have hil := (List.getElem?_eq_some_iff.1 hi).1
      obtain ⟨g1, g2, g3, g4⟩ := hrestb i (by omega) hij
      rw [g3] at hi; cases hi
      exact ⟨Nat.lt_of_lt_of_le g4 hs.stp.size, by rw [g2]; exact (hS.inv.mine _ hb).2⟩
  · intro b hb hu
    have h1 := hS.stp.keep b hb hu
    have hbw := Nat.lt_of_lt_of_le hb hS.stp.size
    have h2 := hs.stp.keep b hbw (by
      rw [hU]
      intro hp
      exact hu (hold b hbw hp hb))
    exact ⟨h2.1.trans h1.1, h2.2.trans h1.2⟩
  · intro b hb hp
    rw [hsplit] at hp
    have hbw := Nat.lt_of_lt_of_le hb hS.stp.size
    by_cases h1 : 0 < cnt b (zipF leaf3 [v] [u]) + cnt b (leafO w' out μs) + μs.count b
    · exact hold b hbw (hentry b hbw h1) hb
    · refine hS.own b hb ?_
      rw [hzz, cnt_append]
      have := htot b
      omega
end
end Go.Ev
