/- A function's answer in the plain reading is what a call of it gives in the model. -/
import Derived.Test.YtmhhcoccfojiiaaDoorEvX
namespace Go.Ev

section
variable {c : Cfg} {R : Type}

theorem padK_eq : ∀ (n : Nat) (K : List V → Option R), padK n K = K (List.replicate n .bot)
  | 0, _ => rfl
  | n + 1, K => by simp only [padK, padK_eq n, List.replicate_succ]
theorem envK_eq : ∀ (args : List V) (n : Nat) (K : List V → Option R), envK args n K = K (args ++ List.replicate (n - args.length) .bot)
  | [], n, K => by simp [envK, padK_eq]
  | v :: r, n, K => by
    simp only [envK, envK_eq r, List.cons_append, List.length_cons]
    congr 4
    omega

theorem finish_ok {fn : Func} {f : FuncId} {osh : List OSh} {v0 v : V} {objs0 objs : List Ob} (h : finish c fn f osh v0 objs0 = some (v, objs)) {rsh : List RSh} (hr : rshOf c fn (c.rtip f) = some rsh) :
    fitsRes rsh v = true ∧ fitsObs osh objs = true ∧ (v = v0 ∨ v = v0.cut) ∧ objs = objs0.take osh.length ∧ (∀ i ∈ v.refs, i < osh.length) ∧ ∀ i ∈ obRefs objs, i < osh.length := by
  unfold finish at h
  rw [hr] at h
  dsimp only at h
  generalize hg : (if c.rtip f = true then v0 else v0.cut) = v1 at h
  have hv : v1 = v0 ∨ v1 = v0.cut := by
    rw [← hg]
    split
    · exact .inl rfl
    · exact .inr rfl
  split at h
  · rename_i hcnd
    simp only [Bool.and_eq_true, List.all_eq_true, decide_eq_true_eq] at hcnd
    cases h
    exact ⟨hcnd.1.1.1, hcnd.1.1.2, hv, rfl, hcnd.1.2, hcnd.2⟩
  · cases h

theorem callN_ok (hc : CfgOk c) (hhand : ∀ f h, c.hand f = some h → FunOk c f h) : ∀ (k : Nat) (f : FuncId), FunOk c f (callN c k f)
  | 0, f => ⟨fun args objs v objs' _ h => (by cases h), fun fn rsh hfn hrsh args objs v objs' h => (by cases h)⟩
  | k + 1, f => by
    cases hh : c.hand f with
    | some g =>
      have : callN c (k + 1) f = g := by funext args objs; simp only [callN, hh]
      rw [this]; exact hhand f g hh
    | none =>
      refine ⟨fun args objs v objs' hro0 h => ?_, ?_⟩
      · simp only [callN, hh] at h
        split at h
        · cases h
        · rename_i fn hfn
          split at h
          · cases h
          · rename_i code hb
            rw [envK_eq] at h
            have take : ∀ (S' : St), finV c fn (finish c fn f (objs.map OSh.of)) S' = some (v, objs') → objs' = S'.objs.take objs.length := by
              intro S' h1
              unfold finV at h1
              have hfi : ∃ v0, finish c fn f (objs.map OSh.of) v0 S'.objs = some (v, objs') := by
                split at h1
                · split at h1
                  · cases h1
                  · exact ⟨_, h1⟩
                  · exact ⟨_, h1⟩
                · cases h1
              obtain ⟨v0, hfi⟩ := hfi
              unfold finish at hfi
              split at hfi
              · cases hfi
              · dsimp only at hfi
                generalize (if c.rtip f = true then v0 else v0.cut) = v1 at hfi
                split at hfi
                · cases hfi; simp
                · cases hfi
            rcases hro0 with hro | ⟨_, rfl⟩
            · have hcode := hc.ro f fn hro hfn code hb
              obtain ⟨S', h1, h2⟩ := runN_pre hc.inl (Nat.le_refl objs.length) (k + 1) [.code code] ⟨_, objs⟩ (fun x hx => by simp at hx; subst hx; exact hcode) h
              rw [take S' h1, (h2 (Nat.le_refl _)).2, List.take_length]
            · obtain ⟨S', h1⟩ := runN_fin hc.inl (k + 1) [.code code] ⟨_, []⟩ h
              rw [take S' h1]; rfl
      intro fn rsh hfn hrsh args objs v objs' h w G μ cargs hlen hinv
      simp only [callN, hh, hfn] at h
      obtain ⟨hf, hname, hbody⟩ := hc.fn f fn hfn
      cases hb : fn.body with
      | none => simp [hb] at h
      | some code =>
        simp only [hb, envK_eq] at h
        let b : Frame := { (default : Frame) with fn := f, kind := .normal }
        let a0 : Act := { tmps := cargs.toArray ++ Array.replicate (fn.ntmps - cargs.toArray.size) undef, defers := [] }
        have henter : Frame.enter c.P f cargs.toArray .normal = b.at a0 [.code code] := by
          simp [Frame.enter, Frame.at, hf, hb, b, a0]
        have hsim0 : Sim c (entry w G μ args cargs objs) w G μ args cargs objs :=
          ⟨hinv, ⟨Nat.le_refl _, Seal.refl w G, fun _ _ _ => ⟨rfl, rfl⟩, rfl, rfl, rfl⟩, fun b _ h => h, [], by simp [entry]⟩
        have hsim : Sim c (entry w G μ args cargs objs) w G μ (args ++ List.replicate (fn.ntmps - args.length) .bot) a0.tmps.toList objs := by
          have hz : ∀ (n : Nat) (us : List Value), zipF leaf3 (List.replicate n V.bot) us = [] := by
            intro n
            induction n with
            | zero => intro us; simp [zipF]
            | succ n ih => intro us; cases us with
              | nil => simp [List.replicate_succ, zipF]
              | cons u us => simp [List.replicate_succ, zipF, leaf3_bot, ih]
          have hzz : zipF leaf3 (args ++ List.replicate (fn.ntmps - args.length) .bot) a0.tmps.toList = zipF leaf3 args cargs := by
            simp only [a0, Array.toList_append]
            rw [zipF_append leaf3 _ _ _ _ hlen.symm, hz]; simp
          refine ⟨⟨by simp [a0, hlen], fun i u x hu hx => ?_, hinv.olen, hinv.obs, fun b => by rw [hzz]; exact hinv.one b, fun l hl => hinv.ok l (by rwa [hzz] at hl), hinv.mine, hinv.none⟩, hsim0.stp, fun b hb hc' => hsim0.own b hb (by rwa [hzz] at hc'), hsim0.pre⟩
          by_cases hi : i < args.length
          · rw [List.getElem?_append_left hi] at hu
            have hx' : cargs[i]? = some x := by
              simp only [a0, Array.toList_append] at hx
              rw [List.getElem?_append_left (by simpa [hlen] using hi)] at hx
              simpa using hx
            exact hinv.rep i u x hu hx'
          · rw [List.getElem?_append_right (by omega)] at hu
            have := List.mem_of_getElem? hu
            rw [List.mem_replicate] at this
            rw [this.2]; exact .bot _
        have hol : μ.length = objs.length := hinv.olen.symm
        -- the end
        let Φ : Act → World → Prop := fun a' w' => a'.defers = [] ∧ fitsRes rsh v = true ∧ fitsObs (objs.map OSh.of) objs' = true ∧
          ∃ u G', (results fn a'.tmps).run c.P w' = .ok u w' ∧ Sim c (entry w G μ args cargs objs) w' G' μ [v] [u] objs'
        have hfin : ∀ S a w' G' μ', finV c fn (finish c fn f (objs.map OSh.of)) S = some (v, objs') → SimS c (entry w G μ args cargs objs) w' G' μ' S a → a.defers = [] → Φ a w' := by
          intro S a w' G' μ' hf hS hd
          obtain ⟨v0, u, hfi, hrun, hs⟩ := finV_ok hc hf hS
          obtain ⟨g1, g2, g3, g4, g5, g6⟩ := finish_ok hfi hrsh
          rw [List.length_map] at g4 g5 g6
          have hs' : Sim c (entry w G μ args cargs objs) w' G' μ' [v] [u] S.objs := by
            rcases g3 with rfl | rfl
            · exact hs
            · exact hs.reput 0 fun x hx => by
                simp at hx; subst hx
                exact ⟨(hs.inv.rep 0 v0 u rfl rfl).cut, leaf3_cut _ _⟩
          have ht := hs'.trunc objs.length (by simp [entry, hol]) (fun i hi => g5 i (by simpa [V.refsL] using hi)) (fun i hi => g6 i (by rwa [g4]))
          obtain ⟨ν, hν⟩ := hs.pre
          have hμ : μ'.take objs.length = μ := by rw [hν]; simp [entry, ← hol]
          rw [hμ, ← g4] at ht
          exact ⟨hd, g1, g2, u, G', hrun, ht⟩
        have runs : ∀ cs, Runs c.P b cs a0 [.code code] w Φ := fun cs =>
          runN_ok hc (callN_ok hc hhand k) (by simp [entry, hol]) hfin (k + 1) [.code code] ⟨_, objs⟩ a0 w G μ h hsim rfl
        obtain ⟨_, _, _, ⟨_, g1, g2, _⟩, _⟩ := runs []
        refine ⟨g1, g2, fun cs => ?_⟩
        obtain ⟨a', w', todo', ⟨hd, _, _, u, G', hr, hs⟩, hst⟩ := runs cs
        rw [← henter] at hst
        exact ⟨.returned u, w', _, ⟨u, G', rfl, hs⟩, hst, rfl, rfl, hd, rfl, fn, hf, hr⟩
end
end Go.Ev
