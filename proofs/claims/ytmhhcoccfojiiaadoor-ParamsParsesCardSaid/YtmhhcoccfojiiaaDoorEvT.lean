/- Code: what the plain reading says of a function, the model does. -/
import Derived.Test.YtmhhcoccfojiiaaDoorEvS
namespace Go.Ev

section
variable {c : Cfg} {E : Ent} {R : Type}

def toItem : It → Item
  | .code x => .code x
  | .inBlock id => .inBlock id
  | .inLoop x => .inLoop x
  | .inScope x => .inScope x

theorem exitTo_map (id : Nat) : ∀ (k k' : List It), exitIt id k = some k' → exitTo id (k.map toItem) = some (k'.map toItem)
  | [], _, h => by cases h
  | .inBlock i :: k, k', h => by
    simp only [exitIt] at h
    simp only [List.map_cons, toItem, exitTo]
    split at h
    · rename_i hi; cases h; rw [if_pos hi]
    · rename_i hi; rw [if_neg hi]; exact exitTo_map id k k' h
  | .code x :: k, k', h => by
    simp only [exitIt] at h
    simp only [List.map_cons, toItem, exitTo]
    exact exitTo_map id k k' h
  | .inLoop x :: k, k', h => by
    simp only [exitIt] at h
    simp only [List.map_cons, toItem, exitTo]
    exact exitTo_map id k k' h
  | .inScope x :: k, k', h => by
    simp only [exitIt] at h
    simp only [List.map_cons, toItem, exitTo]
    exact exitTo_map id k k' h

theorem step_scope {P : Program} {b : Frame} {a : Act} {k : List Item} {cs : List Frame} {w : World} {c : Code} :
    step P (lone (b.at a (.code (.scope c) :: k)) cs w) = .next (lone (b.at a (.code c :: .inScope c :: k)) cs w) :=
  step_lone_go (by simp [stepG, stepG.exec, Frame.at])
theorem step_inScope {P : Program} {b : Frame} {a : Act} {k : List Item} {cs : List Frame} {w : World} {c : Code} :
    step P (lone (b.at a (.inScope c :: k)) cs w) = .next (lone (b.at a k) cs w) :=
  step_lone_go (by simp [stepG, stepG.exec, Frame.at])

/-- The frame comes to an end. -/
def Runs (P : Program) (b : Frame) (cs : List Frame) (a : Act) (todo : List Item) (w : World) (Φ : Act → World → Prop) : Prop :=
  ∃ a' w' todo', Φ a' w' ∧ Steps P (lone (b.at a todo) cs w) (lone { b.at a' todo' with mode := .returning } cs w')

theorem Runs.of_steps {P : Program} {b : Frame} {cs : List Frame} {a a1 : Act} {todo todo1 : List Item} {w w1 : World} {Φ : Act → World → Prop} (h : Steps P (lone (b.at a todo) cs w) (lone (b.at a1 todo1) cs w1))
    (h' : Runs P b cs a1 todo1 w1 Φ) : Runs P b cs a todo w Φ := by
  obtain ⟨a', w', t, h1, h2⟩ := h'
  exact ⟨a', w', t, h1, h.trans h2⟩

theorem forgetK_ok {w : World} {G : Gh} {μ : List Nat} {a : Act} {K : St → Option R} {r : R} : ∀ (l : List Nat) (S : St), forgetK S l K = some r → ∀ (env2 : List V), (∀ t, t ∉ l → env2[t]? = S.env[t]?) → env2.length = S.env.length →
    Sim c E w G μ env2 a.tmps.toList S.objs → ∃ S', K S' = some r ∧ SimS c E w G μ S' a
  | [], S, h, env2, he, hl, hs => by
    have : env2 = S.env := List.ext_getElem? fun t => he t (by simp)
    rw [this] at hs
    exact ⟨S, h, hs⟩
  | t :: l, S, h, env2, he, hl, hs => by
    simp only [forgetK, putK_eq] at h
    refine forgetK_ok l _ h (env2.set t .bot) (fun k hk => ?_) (by simpa using hl) (hs.reput t fun x _ => ⟨.bot _, leaf3_bot _⟩)
    simp only
    by_cases hkt : t = k
    · subst hkt
      by_cases hlt : t < S.env.length
      · rw [List.getElem?_set_self hlt, List.getElem?_set_self (by omega)]
      · rw [List.getElem?_eq_none (by simp; omega), List.getElem?_eq_none (by simp; omega)]
    · rw [List.getElem?_set_ne hkt, List.getElem?_set_ne hkt]
      exact he k (by simp [hk]; omega)

/-- The operations of a region that only compute leave all other slots as they were. -/
theorem opsK_frame (hinl : ∀ f, c.inl f = false) {call : FuncId → Fun} {icall : ICall R} {ops : List Oper} {K : St → Option R} {r : R} : ∀ (l : List Oper) (S : St), (∀ o ∈ l, opClassAt c ops o ≠ 2) →
    opsK c call icall ops l S K = some r → ∃ S', (∀ K' : St → Option R, opsK c call icall ops l S K' = K' S') ∧ S'.objs = S.objs ∧ S'.env.length = S.env.length ∧ ∀ t, t ∉ l.flatMap (opWrites c ops) → S'.env[t]? = S.env[t]?
  | [], S, _, h => ⟨S, fun _ => rfl, rfl, rfl, fun _ _ => rfl⟩
  | o :: l, S, hk, h => by
    obtain ⟨F, hF, e⟩ := stepK_some (R := R) hinl (call := call) (ops := ops) (o := o)
    rw [opsK_cons, e] at h
    obtain ⟨S1, h1, h2⟩ := Option.bind_eq_some_iff.1 h
    obtain ⟨f1, f2, f3⟩ := hF.frame S S1 h1
    obtain ⟨S', g1, g2, g3, g4⟩ := opsK_frame hinl l S1 (fun o ho => hk o (by simp [ho])) h2
    refine ⟨S', fun K' => by rw [opsK_cons, e, h1]; exact g1 K', by rw [g2, f3 (hk o (by simp))], by rw [g3, f2], fun t ht => ?_⟩
    simp only [List.flatMap_cons, List.mem_append, not_or] at ht
    rw [g4 t ht.2, f1 t ht.1]

theorem quiet_class {ops : List Oper} {o : Oper} (h : opQuiet o.op = true) (hl : (match o.op with | .load .. => owned c ops o.dst | _ => false) = false) : opClassAt c ops o ≠ 2 := by
  obtain ⟨dst, op, type, pos, after, guard⟩ := o
  cases op
  case load t x => simp only at hl; simp [opClassAt, hl]
  case call cl =>
    obtain ⟨callee, args, at'⟩ := cl
    cases callee with
    | builtin b => cases b <;> first | (simp [opQuiet] at h; done) | (simp [opClassAt, opClass]; done)
    | _ => simp [opQuiet] at h
  all_goals first | (simp [opQuiet] at h; done) | (simp [opClassAt, opClass]; done)

theorem slot_bool {w : World} {G : Gh} {μ : List Nat} {S : St} {a : Act} (hS : SimS c E w G μ S a) {s : Nat} {b : Bool} (h : a.eval (.tmp s) = .bool b) : SimS c E w G μ ⟨S.env.set s (.bool b), S.objs⟩ a :=
  hS.reput s fun x hxs => by
    have : x = .bool b := by
      simp only [Act.eval, getD_toList, List.getD, hxs] at h
      simpa using h
    subst this
    exact ⟨.bool _, rfl⟩

theorem runM_ok (hc : CfgOk c) {call : FuncId → Fun} (hcall : ∀ f, FunOk c f (call f)) {icall : ICall R} {rs : List Nat} {base : Nat} (hbase : E.μ.length ≤ base) {again : List It → St → Option R} {fin : St → Option R}
    {b : Frame} {cs : List Frame} {r : R} {d : List Deferred} {Φ : Act → World → Prop}
    (hagain : ∀ td S a w G μ, again td S = some r → SimS c E w G μ S a → a.defers = d → Runs c.P b cs a (td.map toItem) w Φ)
    (hfin : ∀ S a w G μ, fin S = some r → SimS c E w G μ S a → a.defers = d → Φ a w) :
    ∀ (m : Nat) (td : List It) (S : St) (a : Act) (w : World) (G : Gh) (μ : List Nat), runM c call icall rs base again fin m td S = some r → SimS c E w G μ S a → a.defers = d → Runs c.P b cs a (td.map toItem) w Φ := by
  intro m
  induction m with
  | zero => intro td S a w G μ h; simp [runM] at h
  | succ m ih =>
    intro td S a w G μ h hS hd
    cases td with
    | nil => exact ⟨a, w, [], hfin S a w G μ (by simpa [runM] using h) hS hd, .one step_end⟩
    | cons it k =>
      have loop : ∀ x, S.normK (liveT rs (.inLoop x :: k)).n base (fun S => again (.code x :: .inLoop x :: k) S) = some r → Runs c.P b cs a (.code x :: .inLoop x :: k.map toItem) w Φ := by
        intro x h
        obtain ⟨S', μ', hk, hs⟩ := normK_ok h hS hbase
        exact hagain _ S' a w G μ' hk hs hd
      cases it with
      | inBlock id => exact .of_steps (.one step_inBlock) (ih k S a w G μ (by simpa [runM] using h) hS hd)
      | inLoop x => exact .of_steps (.one step_inLoop) (loop x (by simpa [runM] using h))
      | inScope x => exact .of_steps (.one step_inScope) (ih k S a w G μ (by simpa [runM] using h) hS hd)
      | code x =>
        cases x with
        | ret => exact ⟨a, w, _, hfin S a w G μ (by simpa [runM] using h) hS hd, .one step_ret⟩
        | skip => exact .of_steps (.one step_skip) (ih k S a w G μ (by simpa [runM] using h) hS hd)
        | label l => exact .of_steps (.one step_label) (ih k S a w G μ (by simpa [runM] using h) hS hd)
        | seq x y => exact .of_steps (.one step_seq) (ih (.code x :: .code y :: k) S a w G μ (by simpa [runM] using h) hS hd)
        | scope x => exact .of_steps (.one step_scope) (ih (.code x :: .inScope x :: k) S a w G μ (by simpa [runM] using h) hS hd)
        | block id x => exact .of_steps (.one step_block) (ih (.code x :: .inBlock id :: k) S a w G μ (by simpa [runM] using h) hS hd)
        | loop x => exact .of_steps (.one step_loop) (loop x (by simpa [runM] using h))
        | exit id =>
          simp only [runM] at h
          split at h
          · rename_i k' hk
            exact .of_steps (.one (step_exit (exitTo_map id k k' hk))) (ih k' S a w G μ h hS hd)
          · cases h
        | cond x y z =>
          simp only [runM] at h
          split at h
          · rename_i t ht
            have hx := bool_of (opd_rep hS 0 x) ht
            have refine' : ∀ (t' : Bool) (K : St → Option R), a.eval x = .bool t' → refineK S x t' K = some r → ∃ S', K S' = some r ∧ SimS c E w G μ S' a := by
              intro t' K hx hk
              cases x with
              | tmp s =>
                simp only [refineK, putK_eq] at hk
                exact ⟨_, hk, slot_bool hS hx⟩
              | _ => exact ⟨S, hk, hS⟩
            refine .of_steps (.one (step_cond hx)) ?_
            cases t with
            | true =>
              obtain ⟨S', hk, hs⟩ := refine' true _ hx (by simpa using h)
              exact ih (.code y :: k) S' a w G μ hk hs hd
            | false =>
              obtain ⟨S', hk, hs⟩ := refine' false _ hx (by simpa using h)
              exact ih (.code z :: k) S' a w G μ hk hs hd
          · cases h
        | region id ops draw =>
          simp only [runM] at h
          split at h
          · cases h
          · rename_i hof
            have hof : (draw && !orderFree c ops.toList) = false := by simpa using hof
            split at h
            · rename_i hq
              simp only [Bool.and_eq_true] at hq
              split at h
              · cases h
              · rename_i t ht
                obtain ⟨bb, hb, hk⟩ := Option.bind_eq_some_iff.1 h
                have hcl : ∀ o ∈ ops.toList, opClassAt c ops.toList o ≠ 2 := by
                  intro o ho
                  have := hq.2
                  simp only [quiet, List.all_eq_true, Bool.and_eq_true, Bool.not_eq_true'] at this
                  exact quiet_class (this o ho).1 (this o ho).2
                obtain ⟨S1, h1, h2, h3, h4⟩ := opsK_frame hc.inl _ S hcl hb
                classical
                let K1 : St → Option Bool := fun T => if T.get t = .bool bb ∧ T.objs = S.objs ∧ T.env.length = S.env.length ∧ ∀ t, t ∉ ops.toList.flatMap (opWrites c ops.toList) → T.env[t]? = S.env[t]? then some bb else none
                have hg : S1.get t = .bool bb := by
                  rw [h1] at hb
                  split at hb
                  · rename_i b' hb'; cases hb; exact hb'
                  · cases hb
                have hK1 : opsK c call noICall ops.toList ops.toList S K1 = some bb := by
                  rw [h1]
                  exact if_pos ⟨hg, h2, h3, h4⟩
                obtain ⟨e, a', w', ⟨rfl, S2, G', μ', hk2, hs, hd'⟩, harr⟩ := region_ok hc hcall (id := id) hof hK1 hS b (k.map toItem) cs
                have hS2 : S2.get t = .bool bb ∧ S2.objs = S.objs ∧ S2.env.length = S.env.length ∧ ∀ t, t ∉ ops.toList.flatMap (opWrites c ops.toList) → S2.env[t]? = S.env[t]? := by
                  apply Classical.byContradiction
                  intro hn
                  simp only [K1, if_neg hn] at hk2
                  cases hk2
                obtain ⟨g1, g2, g3, g4⟩ := hS2
                have hev := bool_of (opd_rep (S := S2) hs 0 (.tmp t)) g1
                rw [g2] at hs
                obtain ⟨S3, hk3, hs3⟩ := forgetK_ok _ S hk S2.env g4 g3 hs
                rw [putK_eq] at hk3
                exact .of_steps harr (ih k _ a' w' G' μ' hk3 (slot_bool hs3 hev) (by rw [hd', hd]))
            · obtain ⟨e, a', w', ⟨rfl, S', G', μ', hk, hs, hd'⟩, harr⟩ := region_ok hc hcall (id := id) hof h hS b (k.map toItem) cs
              exact .of_steps harr (ih k S' a' w' G' μ' hk hs (by rw [hd', hd]))
        | _ => simp [runM] at h

theorem runN_ok (hc : CfgOk c) {call : FuncId → Fun} (hcall : ∀ f, FunOk c f (call f)) {icall : ICall R} {rs : List Nat} {base : Nat} (hbase : E.μ.length ≤ base) {fin : St → Option R}
    {b : Frame} {cs : List Frame} {r : R} {d : List Deferred} {Φ : Act → World → Prop}
    (hfin : ∀ S a w G μ, fin S = some r → SimS c E w G μ S a → a.defers = d → Φ a w) :
    ∀ (n : Nat) (td : List It) (S : St) (a : Act) (w : World) (G : Gh) (μ : List Nat), runN c call icall rs base fin n td S = some r → SimS c E w G μ S a → a.defers = d → Runs c.P b cs a (td.map toItem) w Φ
  | 0, td, S, a, w, G, μ, h, _, _ => by simp [runN] at h
  | n + 1, td, S, a, w, G, μ, h, hS, hd => runM_ok hc hcall hbase (fun td S a w G μ h hS hd => runN_ok hc hcall hbase hfin n td S a w G μ h hS hd) hfin depth td S a w G μ (by simpa only [runN] using h) hS hd
end
end Go.Ev
