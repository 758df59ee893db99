/- Each operation, calls too: what the plain reading says, the model does. -/
import Derived.Test.YtmhhcoccfojiiaaDoorEvL
namespace Go.Ev

section
variable {c : Cfg} {E : Ent} {w w' : World} {G G' : Gh} {μ : List Nat} {R : Type}

theorem Sim.drops : ∀ {fr : List V} {cfr : List Value} {env : List V} {tmps : List Value} {objs : List Ob}, cfr.length = fr.length → Sim c E w G μ (fr ++ env) (cfr ++ tmps) objs → Sim c E w G μ env tmps objs
  | [], [], _, _, _, _, h => h
  | [], _ :: _, _, _, _, hl, _ => by simp at hl
  | _ :: _, [], _, _, _, hl, _ => by simp at hl
  | v :: fr, x :: cfr, _, _, _, hl, h => Sim.drops (fr := fr) (cfr := cfr) (by simpa using hl) (Sim.pop h)

theorem shed_front {S : St} {x : Operand} {t : TypeId} {K : St → Option R} {r : R} {fr : List V} {cfr : List Value} {a : Act} (h : shedK S x K = some r) (hl : cfr.length = fr.length)
    (hS : Sim c E w G μ (fr ++ S.env) (cfr ++ a.tmps.toList) S.objs) :
    ∃ S', K S' = some r ∧ S'.objs = S.objs ∧ Sim c E w G μ (opd c S t x :: (fr ++ S'.env)) (a.eval x :: (cfr ++ a.tmps.toList)) S.objs := by
  classical
  let S2 : St := ⟨fr ++ S.env, S.objs⟩
  let a2 : Act := ⟨(cfr ++ a.tmps.toList).toArray, a.defers⟩
  let K2 : St → Option R := fun T => if T.env.take fr.length = fr then K ⟨T.env.drop fr.length, T.objs⟩ else none
  let x2 : Operand := match x with | .tmp s => .tmp (fr.length + s) | x => x
  have hK2 : ∀ env objs, K2 ⟨fr ++ env, objs⟩ = K ⟨env, objs⟩ := by intro env objs; simp [K2]
  have hget : ∀ s, S2.get (fr.length + s) = S.get s := by
    intro s
    simp only [S2, St.get, List.getD]
    rw [List.getElem?_append_right (by omega)]
    simp
  have hset : ∀ s v, S2.putK (some (fr.length + s)) v K2 = S.putK (some s) v K := by
    intro s v
    rw [putK_eq, putK_eq]
    have : S2.env.set (fr.length + s) v = fr ++ S.env.set s v := by
      simp only [S2]
      rw [List.set_append_right _ _ (by omega)]
      simp
    rw [this, hK2]
  have h2 : shedK S2 x2 K2 = some r := by
    rw [← h]
    cases x with
    | tmp s =>
      simp only [x2, shedK, hget]
      have hid : K2 S2 = K S := hK2 S.env S.objs
      split <;> simp only [hset, hid] <;> first | rfl | skip
    | _ => exact hK2 S.env S.objs
  have hS2 : SimS c E w G μ S2 a2 := by simpa [S2, a2] using hS
  obtain ⟨S', hk, ho, hs⟩ := shedK_sim (t := t) h2 hS2
  have hev : a2.eval x2 = a.eval x := by
    cases x with
    | tmp s =>
      simp only [x2, Act.eval, getD_toList, a2, List.getD]
      rw [List.getElem?_append_right (by omega), hl]
      simp
    | _ => rfl
  have hop : opd c S2 t x2 = opd c S t x := by
    cases x with
    | tmp s => exact hget s
    | _ => rfl
  rw [hev, hop] at hs
  simp only [K2] at hk
  split at hk
  · rename_i hfr
    refine ⟨⟨S'.env.drop fr.length, S'.objs⟩, hk, ho, ?_⟩
    have he : fr ++ S'.env.drop fr.length = S'.env := by
      conv => lhs; lhs; rw [← hfr]
      exact List.take_append_drop _ _
    simp only [he]
    simpa [a2] using hs
  · cases hk

theorem passK_ok {f : FuncId} {a : Act} {fr : List V} {cfr : List Value} (hl : cfr.length = fr.length) : ∀ (l : List Operand) (ts : List TypeId) (i : Nat) (S : St) (K : List V → St → Option R) (r : R),
    passK c f i S l ts K = some r → Sim c E w G μ (fr ++ S.env) (cfr ++ a.tmps.toList) S.objs →
    ∃ vs S', K vs S' = some r ∧ S'.objs = S.objs ∧ vs.length = l.length ∧ Sim c E w G μ (vs ++ (fr ++ S'.env)) (l.map a.eval ++ (cfr ++ a.tmps.toList)) S'.objs
  | [], ts, i, S, K, r, h, hS => ⟨[], S, h, rfl, rfl, hS⟩
  | x :: l, ts, i, S, K, r, h, hS => by
    obtain ⟨vs, S', hk, ho, hvl, hs⟩ := passK_ok hl l ts.tail (i + 1) S _ r h hS
    have hl' : (l.map a.eval ++ cfr).length = (vs ++ fr).length := by simp [hvl, hl]
    rw [← List.append_assoc, ← List.append_assoc] at hs
    split at hk
    · obtain ⟨S'', hk', ho', hs'⟩ := shed_front (t := ts.headD 0) (a := a) hk hl' hs
      refine ⟨_, S'', hk', by rw [ho', ho], by simp [hvl], ?_⟩
      rw [ho']
      simpa using hs'
    · have hd : SimS c E w G μ S' a := Sim.drops hl' hs
      refine ⟨_, S', hk, ho, by simp [hvl], ?_⟩
      have := hs.push (opd_rep hd (ts.headD 0) x).cut (leaf3_cut _ _)
      simpa using this

theorem Sim.pushes {env : List V} {tmps : List Value} {objs : List Ob} : ∀ (vs : List V) (xs : List Value), xs.length = vs.length → (∀ (i : Nat) v x, vs[i]? = some v → xs[i]? = some x → Rep c w G μ v x ∧ leaf3 v x = []) →
    Sim c E w G μ env tmps objs → Sim c E w G μ (vs ++ env) (xs ++ tmps) objs
  | [], [], _, _, h => h
  | [], _ :: _, hl, _, _ => by simp at hl
  | _ :: _, [], hl, _, _ => by simp at hl
  | v :: vs, x :: xs, hl, hr, h => by
    have h0 := hr 0 v x rfl rfl
    exact (Sim.pushes vs xs (by simpa using hl) (fun i v x hv hx => hr (i + 1) v x hv hx) h).push h0.1 h0.2

theorem cutL_get : ∀ (l : List V) (i : Nat), (V.cutL l)[i]? = (l[i]?).map V.cut
  | [], i => by simp [V.cutL]
  | v :: r, 0 => by simp [V.cutL]
  | v :: r, i + 1 => by simp [V.cutL, cutL_get r i]
theorem cutL_length : ∀ (l : List V), (V.cutL l).length = l.length
  | [] => rfl
  | v :: r => by simp [V.cutL, cutL_length r]

theorem argsOf_length (S : St) : ∀ (l : List Operand) (ts : List TypeId), (argsOf c S l ts).length = l.length
  | [], _ => rfl
  | x :: r, ts => by simp [argsOf, argsOf_length S r ts.tail]
theorem argsOf_get (S : St) : ∀ (l : List Operand) (ts : List TypeId) (i : Nat) (v : V), (argsOf c S l ts)[i]? = some v → ∃ x t, l[i]? = some x ∧ v = opd c S t x
  | [], _, i, v, h => by simp [argsOf] at h
  | x :: r, ts, 0, v, h => by simp [argsOf] at h; exact ⟨x, _, rfl, h.symm⟩
  | x :: r, ts, i + 1, v, h => by
    simp only [argsOf, List.getElem?_cons_succ] at h
    obtain ⟨y, t, h1, h2⟩ := argsOf_get S r ts.tail i v h
    exact ⟨y, t, by simpa using h1, h2⟩

theorem clo_of {v : V} {x : Value} {fn : Fn} {first caps : List V} (h : Rep c w G μ v x) (hv : v = .clo fn first caps) : ∃ lf lc : List Value, x = .func fn lf.toArray lc.toArray ∧ lf.length = first.length ∧ lc.length = caps.length ∧
    (∀ (i : Nat) v x, first[i]? = some v → lf[i]? = some x → Rep c w G μ v x) ∧ (∀ (i : Nat) v x, caps[i]? = some v → lc[i]? = some x → Rep c w G μ v x) := by
  subst hv
  cases h with
  | clo _ _ _ lf lc hl hl' hr hr' => exact ⟨lf, lc, rfl, hl, hl', hr, hr'⟩

theorem callFunc_run (hc : CfgOk c) {f : FuncId} {fn : Func} (hf : c.fn f = some fn) (args : Array Value) : (callFunc f args).run c.P w = .ok (.enter f args) w := by
  obtain ⟨h1, h2, h3⟩ := hc.fn f fn hf
  have h4 : fn.body ≠ none := by intro hb; simp [hb] at h3
  simp [callFunc, h1, h2, h4]

theorem enter_ok (hc : CfgOk c) {call : FuncId → Fun} (hcall : ∀ f, FunOk c f (call f)) {icall : ICall R} {f : FuncId} {args : List V} {S : St} {K : V → St → Option R} {r : R} {cargs tmps : List Value}
    (h : enter c call icall f args S K = some r) (hlen : cargs.length = args.length) (hS : Sim c E w G μ (args ++ S.env) (cargs ++ tmps) S.objs) :
    (callFunc f cargs.toArray).run c.P w = .ok (.enter f cargs.toArray) w ∧ Calls c.P f cargs.toArray w fun e w' => ∃ u, e = .returned u ∧ Went c E K r tmps u w' := by
  unfold enter at h
  rw [hc.inl f] at h
  simp only [Bool.false_eq_true, if_false] at h
  split at h
  · cases h
  · rename_i fn hfn
    split at h
    · cases h
    · rename_i rsh hrsh
      exact ⟨callFunc_run hc hfn _, callOut_ok (hcall f) hfn hrsh h hlen hS⟩

theorem fold_run {P : Program} {w : World} {fv : V → V → Option V} {fm : Value → Value → Sem Value}
    (hf : ∀ k x k' y v, fv (.int k x) (.int k' y) = some v → ∃ n, v = .int k n ∧ ∀ w, (fm (.int k x) (.int k' y)).run P w = .ok (.int k n) w)
    (hb : ∀ v v', (∀ k n, v ≠ .int k n) ∨ (∀ k n, v' ≠ .int k n) → fv v v' = none) {G : Gh} {μ : List Nat} :
    ∀ (l : List V) (L : List Value) (v v' : V) (X : Value), L.length = l.length → foldV fv v l = some v' → Rep c w G μ v X → (∀ (i : Nat) v x, l[i]? = some v → L[i]? = some x → Rep c w G μ v x) →
      ∃ X', (L.foldlM fm X).run P w = .ok X' w ∧ Rep c w G μ v' X'
  | [], [], v, v', X, _, h, hX, _ => by simp only [foldV, Option.some.injEq] at h; subst h; exact ⟨X, by simp, hX⟩
  | [], _ :: _, _, _, _, hl, _, _, _ => by simp at hl
  | _ :: _, [], _, _, _, hl, _, _, _ => by simp at hl
  | y :: l, Y :: L, v, v', X, hl, h, hX, hr => by
    simp only [foldV] at h
    obtain ⟨z, hz, h⟩ := Option.bind_eq_some_iff.1 h
    by_cases h1 : ∃ k n, v = .int k n
    · obtain ⟨k, n, rfl⟩ := h1
      by_cases h2 : ∃ k n, y = .int k n
      · obtain ⟨k', n', rfl⟩ := h2
        have hY := hr 0 _ Y rfl rfl
        have e1 := int_of hX rfl
        have e2 := int_of hY rfl
        subst e1; subst e2
        obtain ⟨m, rfl, hm⟩ := hf _ _ _ _ _ hz
        obtain ⟨X', h3, h4⟩ := fold_run hf hb l L (.int k m) v' (.int k m) (by simpa using hl) h (.int _ _) (fun i v x hv hx => hr (i + 1) v x hv hx)
        exact ⟨X', by simp [List.foldlM_cons, hm, h3], h4⟩
      · rw [hb _ _ (.inr fun k n h => h2 ⟨k, n, h⟩)] at hz; cases hz
    · rw [hb _ _ (.inl fun k n h => h1 ⟨k, n, h⟩)] at hz; cases hz

theorem callV_ok (hc : CfgOk c) {call : FuncId → Fun} (hcall : ∀ f, FunOk c f (call f)) {icall : ICall R} {o : Oper} {cl : Call} (ho : o.op = .call cl) {S : St} {a : Act} {K : V → St → Option R} {r : R}
    (h : callV c call icall cl S K = some r) (hS : SimS c E w G μ S a) : OpOk c E o a w K r := by
  obtain ⟨dst, op, type, pos, after, guard⟩ := o
  simp only at ho
  subst ho
  obtain ⟨callee, args, argTypes⟩ := cl
  unfold callV at h
  simp only at h
  have hargs : ∀ (i : Nat) v x, (argsOf c S args.toList argTypes.toList)[i]? = some v → (args.toList.map a.eval)[i]? = some x → Rep c w G μ v x := by
    intro i v x hv hx
    obtain ⟨y, t, h1, rfl⟩ := argsOf_get S _ _ i v hv
    obtain ⟨y', h2, rfl⟩ := get_map hx
    rw [h1] at h2; cases h2
    exact opd_rep hS t y
  have hal := argsOf_length (c := c) S args.toList argTypes.toList
  split at h
  · -- len
    split at h
    · rename_i y t h1 h2
      have ha : args = #[y] := by apply Array.ext'; simpa using h1
      have ht : argTypes = #[t] := by apply Array.ext'; simpa using h2
      subst ha; subst ht
      split at h
      · rename_i v hv
        have hry := opd_rep hS t y
        generalize opd c S t y = yv at hv hry
        unfold lenV at hv
        split at hv
        · rename_i s
          split at hv
          · rename_i hst
            cases hv
            have hX := str_of hry rfl
            have hsz : (⟨s.toArray⟩ : ByteArray).size = s.length := by simp [ByteArray.size]
            have hrun := run_len_string w t type ⟨s.toArray⟩ (isStr_und hst hc)
            rw [hsz] at hrun
            refine .pure hS h (u := goInt s.length) ?_ (.int _ _) rfl
            simp only [execOp, resolve, invoke, builtin, List.map_toArray, List.map_cons, List.map_nil, hX, Sem.run_bind, Sem.run_pure, Result.andThen_ok, hrun]
          · cases hv
        · rename_i e tp xs
          split at hv
          · rename_i hst
            cases hv
            obtain ⟨e', he'⟩ := Option.isSome_iff_exists.1 hst
            obtain ⟨p, m, l, hX, _⟩ := lst_of hry rfl
            have hu := elemOf_und he' hc
            have hpe : c.P.elem t = e' := by simp [Program.elem, hu]
            have hrun := run_len_slice w t type p xs.length m (by rw [hpe]; exact hu)
            refine .pure hS h (u := goInt xs.length) ?_ (.int _ _) rfl
            simp only [execOp, resolve, invoke, builtin, List.map_toArray, List.map_cons, List.map_nil, hX, Sem.run_bind, Sem.run_pure, Result.andThen_ok, hrun]
          · cases hv
        · cases hv
      · cases h
    · cases h
  · -- append
    split at h
    · rename_i so xo st xt h1 h2
      have ha : args = #[so, xo] := by apply Array.ext'; simpa using h1
      have ht : argTypes = #[st, xt] := by apply Array.ext'; simpa using h2
      subst ha; subst ht
      have hrx := opd_rep hS xt xo
      obtain ⟨S', hk, hob, hs⟩ := shedK_sim (t := st) h hS
      generalize hg : opd c S st so = sv at hk hs
      generalize hg2 : opd c S xt xo = xv at hk hrx
      unfold appendV at hk
      split at hk
      · rename_i e xs e' tp ys
        split at hk
        · rename_i y hy
          split at hk
          · rename_i hcnd
            simp only [Bool.and_eq_true, beq_iff_eq, decide_eq_true_eq] at hcnd
            obtain ⟨⟨⟨rfl, hst⟩, hxt⟩, hpos⟩ := hcnd
            obtain ⟨hb, hk⟩ := chk_some hk
            obtain ⟨l, hl, hr, hf, hsz, hsrc⟩ := Src.of_lst hc hrx hxt
            obtain ⟨u, w', G', hrun, hsim⟩ := append_run hc (ty := type) hy hst hs hsrc hl hr hf hsz (by simpa [appOk, appOkS] using hb)
            refine .inl ⟨u, w', ?_, _, S', G', μ, hk, by rw [hob]; exact hsim⟩
            simp [execOp, resolve, invoke, builtin, hrun]
          · cases hk
        · cases hk
      · rename_i e xs t
        split at hk
        case h_2 => cases hk
        rename_i y hy
        split at hk
        · rename_i hcnd
          simp only [Bool.and_eq_true, beq_iff_eq] at hcnd
          obtain ⟨⟨hby, hst⟩, hxt⟩ := hcnd
          obtain ⟨hb, hk⟩ := chk_some hk
          have hX := str_of hrx rfl
          rw [hX] at hrx
          obtain ⟨hsz1, hfb⟩ := isByte_size hby hc
          have hsrc := Src.of_str (w := w) hc hby hxt (t := t)
          obtain ⟨u, w', G', hrun, hsim⟩ := append_run hc (ty := type) (ys := ofBytes t) (l := t.map fun b => Value.int .u8 b.toNat) hy hst hs (by rw [flat_ints]; simpa [ofBytes] using hsrc) (by simp [ofBytes])
            (fun i v x hv hx => ofBytes_rep w G t i v x hv hx) (hfb t) (fun x hx => by
              obtain ⟨b, _, rfl⟩ := List.mem_map.1 hx
              rw [hsz1]; rfl) (by simpa [ofBytes, appOkS] using hb)
          refine .inl ⟨u, w', ?_, _, S', G', μ, hk, by rw [hob]; exact hsim⟩
          simp [execOp, resolve, invoke, builtin, hX, hrun]
        · cases hk
      · cases hk
    · cases h
  · -- max
    split at h
    · rename_i x rest hx
      split at h
      · rename_i v hv
        have hlist : ∃ y ys, args.toList = y :: ys := by
          rw [hx] at hal
          match h1 : args.toList, hal with
          | y :: ys, _ => exact ⟨y, ys, rfl⟩
        obtain ⟨y, ys, hy⟩ := hlist
        rw [hx, hy] at hargs
        rw [hx, hy] at hal
        obtain ⟨X', hrun, hrep⟩ := fold_run (P := c.P) (w := w) (fv := maxV) (fm := Builtin.max2) (fun k x k' y v hv => by
            simp only [maxV, Option.some.injEq] at hv
            exact ⟨_, hv.symm, fun w => by simp [Builtin.max2]⟩) (fun v v' hvv => by
            unfold maxV
            split
            · rcases hvv with h | h
              · exact absurd rfl (h _ _)
              · exact absurd rfl (h _ _)
            · rfl) rest (ys.map a.eval) x v (a.eval y) (by simpa using hal.symm) hv (hargs 0 _ _ rfl rfl) (fun i v x hv hx => hargs (i + 1) v x hv hx)
        refine .pure hS h (u := X') ?_ hrep.cut (leaf3_cut _ _)
        have e : (Array.map a.eval args).toList = a.eval y :: ys.map a.eval := by simp [hy]
        have e2 : (Builtin.max_ argTypes type (Array.map a.eval args)) = (ys.map a.eval).foldlM Builtin.max2 (a.eval y) := by
          simp only [Builtin.max_, e]
        simp only [execOp, resolve, invoke, builtin, Sem.run_bind, Sem.run_pure, Result.andThen_ok, e2, hrun]
      · cases h
    · cases h
  · -- min
    split at h
    · rename_i x rest hx
      split at h
      · rename_i v hv
        have hlist : ∃ y ys, args.toList = y :: ys := by
          rw [hx] at hal
          match h1 : args.toList, hal with
          | y :: ys, _ => exact ⟨y, ys, rfl⟩
        obtain ⟨y, ys, hy⟩ := hlist
        rw [hx, hy] at hargs
        rw [hx, hy] at hal
        obtain ⟨X', hrun, hrep⟩ := fold_run (P := c.P) (w := w) (fv := minV) (fm := Builtin.min2) (fun k x k' y v hv => by
            simp only [minV, Option.some.injEq] at hv
            exact ⟨_, hv.symm, fun w => by simp [Builtin.min2]⟩) (fun v v' hvv => by
            unfold minV
            split
            · rcases hvv with h | h
              · exact absurd rfl (h _ _)
              · exact absurd rfl (h _ _)
            · rfl) rest (ys.map a.eval) x v (a.eval y) (by simpa using hal.symm) hv (hargs 0 _ _ rfl rfl) (fun i v x hv hx => hargs (i + 1) v x hv hx)
        refine .pure hS h (u := X') ?_ hrep.cut (leaf3_cut _ _)
        have e : (Array.map a.eval args).toList = a.eval y :: ys.map a.eval := by simp [hy]
        have e2 : (Builtin.min_ argTypes type (Array.map a.eval args)) = (ys.map a.eval).foldlM Builtin.min2 (a.eval y) := by
          simp only [Builtin.min_, e]
        simp only [execOp, resolve, invoke, builtin, Sem.run_bind, Sem.run_pure, Result.andThen_ok, e2, hrun]
      · cases h
    · cases h
  · -- a function's value
    rename_i fo
    have hrf := opd_rep hS 0 fo
    generalize hg : opd c S 0 fo = fv at h hrf
    split at h
    · rename_i f first caps
      obtain ⟨lf, lc, hX, hlf, hlc, hrfirst, hrcaps⟩ := clo_of hrf rfl
      split at h
      · rename_i hfe
        have hf0 : first = [] := by simpa using hfe
        subst hf0
        have hlf0 : lf = [] := List.eq_nil_of_length_eq_zero (by simpa using hlf)
        subst hlf0
        have hs0 : Sim c E w G μ (V.cutL caps ++ S.env) (lc ++ a.tmps.toList) S.objs := hS.pushes _ _ (by rw [cutL_length]; exact hlc) fun i v x hv hx => by
          rw [cutL_get] at hv
          obtain ⟨v0, hv0, rfl⟩ := Option.map_eq_some_iff.1 hv
          exact ⟨(hrcaps i v0 x hv0 hx).cut, leaf3_cut _ _⟩
        obtain ⟨vs, S', hk, hob, hvl, hs⟩ := passK_ok (by rw [cutL_length]; exact hlc) _ _ _ _ _ _ h hs0
        rw [← List.append_assoc, ← List.append_assoc] at hs
        obtain ⟨h1, h2⟩ := enter_ok hc hcall (cargs := args.toList.map a.eval ++ lc) hk (by simp [hvl, cutL_length, hlc]) hs
        refine .inr (.inr ⟨f, _, ?_, h2⟩)
        simp only [execOp, resolve, hX, Deferred.ofValue, Sem.run_bind, Sem.run_pure, Result.andThen_ok, invoke]
        have e : (#[] : Array Value) ++ Array.map a.eval args ++ lc.toArray = (args.toList.map a.eval ++ lc).toArray := by apply Array.ext'; simp
        simp only [List.toArray] at e ⊢
        rw [show (([] : List Value).toArray ++ Array.map a.eval args ++ lc.toArray) = (args.toList.map a.eval ++ lc).toArray by apply Array.ext'; simp]
        exact h1
      · have hs0 : Sim c E w G μ (V.cutL (first ++ argsOf c S args.toList argTypes.toList ++ caps) ++ S.env) ((lf ++ args.toList.map a.eval ++ lc) ++ a.tmps.toList) S.objs :=
          hS.pushes _ _ (by rw [cutL_length]; simp [hlf, hlc, hal]) fun i v x hv hx => by
            rw [cutL_get] at hv
            obtain ⟨v0, hv0, rfl⟩ := Option.map_eq_some_iff.1 hv
            refine ⟨Rep.cut ?_, leaf3_cut _ _⟩
            by_cases h1 : i < first.length
            · rw [List.append_assoc, List.getElem?_append_left h1] at hv0
              rw [List.append_assoc, List.getElem?_append_left (by omega)] at hx
              exact hrfirst i v0 x hv0 hx
            · by_cases h2 : i < first.length + args.toList.length
              · rw [List.append_assoc, List.getElem?_append_right (by omega), List.getElem?_append_left (by omega)] at hv0
                rw [List.append_assoc, List.getElem?_append_right (by omega), List.getElem?_append_left (by rw [List.length_map]; omega), hlf] at hx
                exact hargs _ v0 x hv0 hx
              · rw [List.getElem?_append_right (by simp [hal]; simp at h2; omega)] at hv0
                rw [List.getElem?_append_right (by simp [hlf]; simp at h2; omega)] at hx
                simp only [List.length_append, hal, hlf, List.length_map] at hv0 hx
                exact hrcaps _ v0 x hv0 hx
        obtain ⟨h1, h2⟩ := enter_ok hc hcall (cargs := lf ++ args.toList.map a.eval ++ lc) h (by rw [cutL_length]; simp [hlf, hlc, hal]) hs0
        refine .inr (.inr ⟨f, _, ?_, h2⟩)
        simp only [execOp, resolve, hX, Deferred.ofValue, Sem.run_bind, Sem.run_pure, Result.andThen_ok, invoke]
        rw [show (lf.toArray ++ Array.map a.eval args ++ lc.toArray) = (lf ++ args.toList.map a.eval ++ lc).toArray by apply Array.ext'; simp]
        exact h1
    · cases h
  · cases h
end
end Go.Ev
