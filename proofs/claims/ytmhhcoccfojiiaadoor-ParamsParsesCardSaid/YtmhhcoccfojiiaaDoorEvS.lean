/- States: what may be forgotten of them, and the results of a function. -/
import Derived.Test.YtmhhcoccfojiiaaDoorEvR
namespace Go.Ev

section
variable {c : Cfg} {E : Ent} {w : World} {G : Gh} {μ : List Nat} {env : List V} {tmps : List Value} {objs : List Ob} {R : Type}

/-- Another reading of a slot. -/
theorem Sim.reput (h : Sim c E w G μ env tmps objs) (i : Nat) {v : V} (hr : ∀ x, tmps[i]? = some x → Rep c w G μ v x ∧ leaf3 v x = []) : Sim c E w G μ (env.set i v) tmps objs := by
  by_cases hi : i < env.length
  · have hlt : i < tmps.length := Nat.lt_of_lt_of_le hi h.inv.len
    have hx := List.getElem?_eq_getElem hlt
    have := (h.push (hr _ hx).1 (hr _ hx).2).put i
    rwa [set_self hx] at this
  · rw [List.set_eq_of_length_le (Nat.le_of_not_lt hi)]; exact h

def keepL (live : List Nat) : Nat → List V → List V
  | _, [] => []
  | t, v :: r => (if live.contains t then v else .bot) :: keepL live (t + 1) r
theorem keepLK_eq {R : Type} (live : List Nat) : ∀ (env : List V) (t : Nat) (K : List V → Option R), keepLK live t env K = K (keepL live t env)
  | [], _, _ => rfl
  | v :: r, t, K => by simp only [keepLK, keepL, keepLK_eq live r]
theorem takeK_eq {R : Type} : ∀ (n : Nat) (l : List Ob) (K : List Ob → Option R), takeK n l K = K (l.take n)
  | 0, _, _ => by simp [takeK]
  | _ + 1, [], _ => by simp [takeK]
  | n + 1, o :: r, K => by simp [takeK, takeK_eq n r]

theorem keepL_get (live : List Nat) : ∀ (env : List V) (t i : Nat) (v : V), (keepL live t env)[i]? = some v → v = .bot ∨ env[i]? = some v
  | [], _, i, v, h => by simp [keepL] at h
  | a :: r, t, 0, v, h => by
    simp only [keepL, List.getElem?_cons_zero, Option.some.injEq] at h
    split at h
    · right; simpa using h
    · left; exact h.symm
  | a :: r, t, i + 1, v, h => by
    simp only [keepL, List.getElem?_cons_succ] at h
    exact keepL_get live r (t + 1) i v h
theorem keepL_length (live : List Nat) : ∀ (env : List V) (t : Nat), (keepL live t env).length = env.length
  | [], _ => rfl
  | a :: r, t => by simp [keepL, keepL_length live r (t + 1)]
theorem keepL_leaf (live : List Nat) : ∀ (env : List V) (t : Nat) (tmps : List Value), (∀ b, cnt b (zipF leaf3 (keepL live t env) tmps) ≤ cnt b (zipF leaf3 env tmps)) ∧ ∀ l ∈ zipF leaf3 (keepL live t env) tmps, l ∈ zipF leaf3 env tmps
  | [], _, _ => ⟨fun _ => Nat.le_refl _, fun _ h => h⟩
  | a :: r, t, [] => by simp [keepL, zipF]
  | a :: r, t, x :: xs => by
    obtain ⟨h1, h2⟩ := keepL_leaf live r (t + 1) xs
    simp only [keepL, zipF]
    split
    · refine ⟨fun b => ?_, fun l hl => ?_⟩
      · rw [cnt_append, cnt_append]; have := h1 b; omega
      · rw [List.mem_append] at hl ⊢; exact hl.imp id (h2 l)
    · rw [leaf3_bot]
      refine ⟨fun b => ?_, fun l hl => ?_⟩
      · rw [cnt_append, cnt_append]; have := h1 b; simp only [cnt_nil]; omega
      · rw [List.mem_append]; exact .inr (h2 l (by simpa using hl))

theorem Sim.keep (h : Sim c E w G μ env tmps objs) (live : List Nat) (t : Nat) : Sim c E w G μ (keepL live t env) tmps objs := by
  obtain ⟨h1, h2⟩ := keepL_leaf live env t tmps
  refine ⟨⟨by rw [keepL_length]; exact h.inv.len, fun i v x hv hx => ?_, h.inv.olen, h.inv.obs, fun b => ?_, fun l hl => ?_, h.inv.mine, h.inv.none⟩, h.stp, fun b hb hc => h.own b hb ?_, h.pre⟩
  · rcases keepL_get live env t i v hv with rfl | hv
    · exact .bot _
    · exact h.inv.rep i v x hv hx
  · have := h.inv.one b; have := h1 b; omega
  · refine h.inv.ok l ?_
    rw [List.mem_append] at hl ⊢
    exact hl.imp (h2 l) id
  · have := h1 b; omega

theorem leafO_take (w : World) : ∀ (objs : List Ob) (μ : List Nat) (n : Nat), leafO w objs μ = leafO w (objs.take n) (μ.take n) ++ leafO w (objs.drop n) (μ.drop n)
  | [], _, n => by simp [leafO]
  | o :: os, [], n => by cases n <;> simp [leafO]
  | o :: os, b :: bs, 0 => by simp [leafO]
  | o :: os, b :: bs, n + 1 => by
    simp only [List.take_succ_cons, List.drop_succ_cons]
    rw [leafO_cons, leafO_cons, leafO_take w os bs n, List.append_assoc]

/-- Objects to which nothing leads any more. -/
theorem Sim.trunc (h : Sim c E w G μ env tmps objs) (n : Nat) (hn : E.μ.length ≤ n) (h1 : ∀ i ∈ V.refsL env, i < n) (h2 : ∀ i ∈ obRefs (objs.take n), i < n) : Sim c E w G (μ.take n) env tmps (objs.take n) := by
  have hl := leafO_take w objs μ n
  have hcount : ∀ b, (μ.take n).count b ≤ μ.count b := fun b => by
    conv => rhs; rw [← List.take_append_drop n μ, List.count_append]
    omega
  have hget : ∀ i b, i < n → μ[i]? = some b → (μ.take n)[i]? = some b := fun i b hi hb => by rw [List.getElem?_take, if_pos hi]; exact hb
  refine ⟨⟨h.inv.len, fun i v x hv hx => (h.inv.rep i v x hv hx).more fun k b hk hb => hget k b (h1 k (refsL_mem env i v k hv hk)) hb, by simp [h.inv.olen], fun i o b ho hb => ?_, fun b => ?_, fun l hl' => ?_, fun b hb => h.inv.mine b (List.mem_of_mem_take hb), h.inv.none⟩, h.stp, fun b hb hc => h.own b hb ?_, ?_⟩
  · have hi : i < n := by
      have := (List.getElem?_eq_some_iff.1 ho).1
      simp at this; omega
    have ho' : objs[i]? = some o := by rw [List.getElem?_take, if_pos hi] at ho; exact ho
    have hb' : μ[i]? = some b := by rw [List.getElem?_take, if_pos hi] at hb; exact hb
    have := (h.inv.obs i o b ho' hb').mapped (μ' := μ.take n) id fun k b hk hb => hget k b (h2 k (obRefs_mem _ i o k ho hk)) hb
    have e : o.ren id = o := by
      cases o with
      | cells cs =>
        simp only [Ob.ren]
        congr 1
        apply List.ext_getElem?
        intro j
        rw [renL_get]
        cases cs[j]? with
        | none => rfl
        | some v => simp [ren_id id v (fun _ _ => rfl)]
      | _ => rfl
    rwa [e] at this
  · have := h.inv.one b
    rw [hl, cnt_append] at this
    have := hcount b
    omega
  · refine h.inv.ok l ?_
    rw [hl]
    simp only [List.mem_append] at hl' ⊢
    rcases hl' with h | h
    · exact .inl h
    · exact .inr (.inl h)
  · rw [hl, cnt_append]
    have := hcount b
    omega
  · obtain ⟨ν, hν⟩ := h.pre
    exact ⟨ν.take (n - E.μ.length), by rw [hν, List.take_append, List.take_of_length_le hn]⟩

theorem normK_ok {S : St} {a : Act} {live : List Nat} {base : Nat} {K : St → Option R} {r : R} (h : S.normK live base K = some r) (hS : SimS c E w G μ S a) (hb : E.μ.length ≤ base) :
    ∃ S' μ', K S' = some r ∧ SimS c E w G μ' S' a := by
  obtain ⟨env, objs⟩ := S
  unfold St.normK at h
  simp only [keepLK_eq, takeK_eq] at h
  have hk := hS.keep live 0
  simp only at hk
  split at h
  · rename_i hcnd
    simp only [Bool.and_eq_true, List.all_eq_true, decide_eq_true_eq, List.length_take] at hcnd
    refine ⟨_, _, h, hk.trunc _ ?_ (fun i hi => by have := hcnd.1 i hi; omega) (fun i hi => by have := hcnd.2 i hi; omega)⟩
    have key : ∀ (l : List Nat) (n : Nat), n ≤ maxRef l n := by
      intro l
      induction l with
      | nil => intro n; exact Nat.le_refl _
      | cons i l ih => intro n; exact Nat.le_trans (Nat.le_max_left _ _) (ih (max n (i + 1)))
    exact Nat.le_trans hb (key _ _)
  · exact ⟨_, _, h, hk⟩

theorem Sim.firsts {fr : List V} {cfr : List Value} (hl : cfr.length = fr.length) (h : Sim c E w G μ (fr ++ env) (cfr ++ tmps) objs) : Sim c E w G μ fr cfr objs := by
  have hz : zipF leaf3 (fr ++ env) (cfr ++ tmps) = zipF leaf3 fr cfr ++ zipF leaf3 env tmps := zipF_append leaf3 _ _ _ _ hl.symm
  refine ⟨⟨by omega, fun i v x hv hx => ?_, h.inv.olen, h.inv.obs, fun b => ?_, fun l hl' => ?_, h.inv.mine, h.inv.none⟩, h.stp, fun b hb hc => h.own b hb ?_, h.pre⟩
  · have hi := (List.getElem?_eq_some_iff.1 hv).1
    exact h.inv.rep i v x (by rw [List.getElem?_append_left hi]; exact hv) (by rw [List.getElem?_append_left (by omega)]; exact hx)
  · have := h.inv.one b; rw [hz, cnt_append] at this; omega
  · refine h.inv.ok l ?_
    rw [hz]
    simp only [List.mem_append] at hl' ⊢
    rcases hl' with h | h
    · exact .inl (.inl h)
    · exact .inr h
  · rw [hz, cnt_append]; omega

theorem leaf2_sub (v : V) (x : Value) : (∀ b, cnt b (leaf2 v x) ≤ cnt b (leaf3 v x)) ∧ ∀ l ∈ leaf2 v x, l ∈ leaf3 v x := by
  cases v with
  | tup cs =>
    have : leaf2 (.tup cs) x = [] := by cases x <;> rfl
    rw [this]
    exact ⟨fun b => by simp [cnt_nil], fun l h => by cases h⟩
  | agg cs => cases x <;> exact ⟨fun _ => Nat.le_refl _, fun _ h => h⟩
  | lst e t xs => cases x <;> exact ⟨fun _ => Nat.le_refl _, fun _ h => h⟩
  | _ => cases x <;> exact ⟨fun _ => Nat.le_refl _, fun _ h => h⟩
theorem zip2_sub : ∀ (vs : List V) (xs : List Value), (∀ b, cnt b (zipF leaf2 vs xs) ≤ cnt b (zipF leaf3 vs xs)) ∧ ∀ l ∈ zipF leaf2 vs xs, l ∈ zipF leaf3 vs xs
  | [], _ => ⟨fun _ => Nat.le_refl _, fun _ h => h⟩
  | _ :: _, [] => ⟨fun _ => Nat.le_refl _, fun _ h => h⟩
  | v :: vs, x :: xs => by
    obtain ⟨h1, h2⟩ := zip2_sub vs xs
    obtain ⟨g1, g2⟩ := leaf2_sub v x
    simp only [zipF]
    refine ⟨fun b => ?_, fun l hl => ?_⟩
    · rw [cnt_append, cnt_append]; have := h1 b; have := g1 b; omega
    · rw [List.mem_append] at hl ⊢; exact hl.imp (g2 l) (h2 l)

/-- Several results are one. -/
theorem Sim.tup {vs : List V} {us : List Value} (hl : us.length = vs.length) (h : Sim c E w G μ vs us objs) : Sim c E w G μ [.tup vs] [.tuple us.toArray] objs := by
  have hz : zipF leaf3 [.tup vs] [.tuple us.toArray] = zipF leaf2 vs us := by simp [zipF, leaf3]
  obtain ⟨h1, h2⟩ := zip2_sub vs us
  refine ⟨⟨by simp, fun i v x hv hx => ?_, h.inv.olen, h.inv.obs, fun b => ?_, fun l hl' => ?_, h.inv.mine, h.inv.none⟩, h.stp, fun b hb hc => h.own b hb ?_, h.pre⟩
  · cases i with
    | zero =>
      simp at hv hx; subst hv; subst hx
      exact .tup vs us hl h.inv.rep
    | succ i => simp at hv
  · rw [hz]; have := h.inv.one b; have := h1 b; omega
  · rw [hz] at hl'
    refine h.inv.ok l ?_
    rw [List.mem_append] at hl' ⊢
    exact hl'.imp (h2 l) id
  · rw [hz] at hc; have := h1 b; omega

def resOne (tmps : Array Value) : ResultVar → Sem Value
  | .tmp t => Pure.pure (tmps.getD t undef)
  | .cell q t => do loadVar t (← asAddr (tmps.getD q undef))
theorem results_eq (fn : Func) (tmps : Array Value) : results fn tmps = (do
    let vs ← fn.results.mapM (resOne tmps)
    pure (if h : vs.size = 1 then vs[0] else .tuple vs) : Sem Value) := by
  unfold results
  congr 1

theorem results_ok (hc : CfgOk c) {S : St} {a : Act} (hS : SimS c E w G μ S a) : ∀ (l : List ResultVar) (vs : List V), (slotsOf l).Nodup → resultsV c S l = some vs →
    ∃ (us : List Value) (env' : List V), (l.mapM (resOne a.tmps)).run c.P w = .ok us w ∧
      us.length = vs.length ∧ (∀ t, t ∉ slotsOf l → env'[t]? = S.env[t]?) ∧ env'.length = S.env.length ∧ Sim c E w G μ (vs ++ env') (us ++ a.tmps.toList) S.objs
  | [], vs, _, h => by
    cases h
    exact ⟨[], S.env, by simp, rfl, fun _ _ => rfl, rfl, hS⟩
  | .cell q t :: l, vs, hn, h => by
    simp only [resultsV] at h
    have hn' : q ∉ slotsOf l ∧ (slotsOf l).Nodup := by simpa [slotsOf] using hn
    split at h
    · rename_i i off v hq hv
      obtain ⟨vs', h1, rfl⟩ := Option.map_eq_some_iff.1 h
      obtain ⟨us, env', hr, hl, he, hel, hs⟩ := results_ok hc hS l vs' hn'.2 h1
      have hrx := opd_rep hS t (.tmp q)
      have hqo : opd c S t (.tmp q) = .ref i off := hq
      rw [hqo] at hrx
      rw [hq] at hv
      simp only [loadV] at hv
      split at hv
      · rename_i cs hob
        have hobs := St.ob_get hob
        obtain ⟨b, hb⟩ := μ_get hS hobs
        obtain ⟨lc, elem, fr, g1, g2, g3, g4, g5⟩ := hS.inv.obs i _ b hobs hb
        have hx : a.eval (.tmp q) = .pointer (some ⟨b, 0 + off, none⟩) := by
          obtain ⟨b', hb', hx'⟩ := ref_of hrx rfl
          rw [hb] at hb'; cases hb'; simpa using hx'
        obtain ⟨u, y, hy, hrun, hru, huc, hle, hvc, hag⟩ := loadVar_ok (w := w) (b := b) (o0 := 0) hc hv g3 g4 g5 (fun j z hj => by
          simp only [World.cell?, g1, Nat.zero_add]; simpa using hj)
        have hx' : a.tmps.getD q undef = .pointer (some ⟨b, 0 + off, none⟩) := hx
        refine ⟨u :: us, env', ?_, by simp [hl], fun k hk => ?_, hel, hs.push hru.cut (leaf3_cut _ _)⟩
        · rw [List.mapM_cons]
          simp only [resOne, hx', asAddr, Sem.run_bind, Sem.run_pure, Result.andThen_ok, hrun, hr]
        · have hk' : k ≠ q ∧ k ∉ slotsOf l := by simpa [slotsOf] using hk
          exact he k hk'.2
      · cases hv
    · cases h
  | .tmp t :: l, vs, hn, h => by
    simp only [resultsV] at h
    obtain ⟨vs', h1, rfl⟩ := Option.map_eq_some_iff.1 h
    have hn' : t ∉ slotsOf l ∧ (slotsOf l).Nodup := by simpa [slotsOf] using hn
    obtain ⟨us, env', hr, hl, he, hel, hs⟩ := results_ok hc hS l vs' hn'.2 h1
    have hrun : ((ResultVar.tmp t :: l).mapM (resOne a.tmps)).run c.P w = .ok (a.tmps.getD t undef :: us) w := by
      rw [List.mapM_cons]
      simp only [resOne, Sem.run_bind, Sem.run_pure, Result.andThen_ok, hr]
    by_cases ht : t < S.env.length
    · have hlt : t < a.tmps.toList.length := Nat.lt_of_lt_of_le ht hS.inv.len
      have hv : env'[t]? = some (S.get t) := by
        rw [he t hn'.1]; simp [St.get, List.getD, List.getElem?_eq_getElem ht]
      have hx : a.tmps.toList[t]? = some (a.tmps.getD t undef) := by
        rw [getD_toList]; simp [List.getD, List.getElem?_eq_getElem hlt]
      have := hs.take (s := vs'.length + t) (by rw [List.getElem?_append_right (by omega)]; simpa using hv) (by rw [List.getElem?_append_right (by omega), hl]; simpa using hx)
      rw [List.set_append_right _ _ (by omega)] at this
      refine ⟨_, env'.set t (S.get t).cut, hrun, by simp [hl], fun k hk => ?_, by simpa using hel, by simpa using this⟩
      have hk' : k ≠ t ∧ k ∉ slotsOf l := by simpa [slotsOf] using hk
      rw [List.getElem?_set_ne (Ne.symm hk'.1), he k hk'.2]
    · have hv : S.get t = .bot := by simp [St.get, List.getD, List.getElem?_eq_none (Nat.le_of_not_lt ht)]
      rw [hv]
      refine ⟨_, env', hrun, by simp [hl], fun k hk => ?_, hel, hs.push (.bot _) (leaf3_bot _)⟩
      have hk' : k ≠ t ∧ k ∉ slotsOf l := by simpa [slotsOf] using hk
      exact he k hk'.2

theorem mapM_toList {P : Program} {α : Type} (f : α → Sem Value) (l : Array α) {us : List Value} (h : (l.toList.mapM f).run P w = .ok us w) : (l.mapM f).run P w = .ok us.toArray w := by
  rw [← Array.toArray_toList (xs := l)]
  rw [List.mapM_toArray]
  simp only [← bind_pure_comp, Sem.run_bind, h, Result.andThen_ok, Sem.run_pure]

/-- A function that is through: its results. -/
theorem finV_ok (hc : CfgOk c) {fn : Func} {S : St} {a : Act} {K : V → List Ob → Option R} {r : R} (h : finV c fn K S = some r) (hS : SimS c E w G μ S a) :
    ∃ v u, K v S.objs = some r ∧ (results fn a.tmps).run c.P w = .ok u w ∧ Sim c E w G μ [v] [u] S.objs := by
  unfold finV at h
  split at h
  · rename_i hnd
    have hnd := nodupB_spec _ hnd
    cases hv : resultsV c S fn.results.toList with
    | none => simp [hv] at h
    | some vs =>
      obtain ⟨us, env', hr, hl, _, _, hs⟩ := results_ok hc hS _ vs hnd hv
      have hf := hs.firsts hl
      have hrun : (results fn a.tmps).run c.P w = .ok (if h : us.toArray.size = 1 then us.toArray[0] else .tuple us.toArray) w := by
        have := mapM_toList _ _ hr
        rw [results_eq, Sem.run_bind, this]
        simp only [Result.andThen_ok, Sem.run_pure]
      rw [hv] at h
      match vs, us, hl, hf, h, hrun with
      | [v], [u], _, hf, h, hrun => exact ⟨v, u, h, hrun, hf⟩
      | [], [], hl, hf, h, hrun => exact ⟨_, _, h, hrun, hf.tup hl⟩
      | v :: v' :: vs, u :: u' :: us, hl, hf, h, hrun =>
        refine ⟨_, _, h, ?_, hf.tup hl⟩
        rw [hrun, dif_neg (by simp)]
  · cases h
end
end Go.Ev
