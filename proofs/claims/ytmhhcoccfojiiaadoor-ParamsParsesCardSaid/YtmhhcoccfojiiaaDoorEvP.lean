/- Regions: in whatever order their operations run, they come to the same. -/
import Derived.Test.YtmhhcoccfojiiaaDoorEvO
namespace Go.Ev

section
variable {c : Cfg}

def putS (S : St) (d : Option Tmp) (v : V) : St := match d with | none => S | some d => ⟨S.env.set d v, S.objs⟩
theorem putK_putS {R : Type} (S : St) (d : Option Tmp) (v : V) (K : St → Option R) : S.putK d v K = K (putS S d v) := by
  cases d with
  | none => rfl
  | some d => rw [putK_eq]; rfl

def guardSlot (ops : List Oper) (j : Nat) : Option Tmp := (ops[j]?).bind (·.dst)

/-- One operation of a region, and its guard. -/
def stepK {R : Type} (c : Cfg) (call : FuncId → Fun) (icall : ICall R) (ops : List Oper) (o : Oper) (S : St) (K : St → Option R) : Option R :=
  match o.guard with
  | none => opK c call icall ops o S fun v S' => K (putS S' o.dst v)
  | some (j, want) =>
    match guardSlot ops j with
    | none => none
    | some t => match S.get t with
      | .bool b => if b = want then opK c call icall ops o S fun v S' => K (putS S' o.dst v) else K (putS S o.dst skipV)
      | .raw (.tuple ⟨[]⟩) => K (putS S o.dst skipV)
      | _ => none

theorem opsK_cons {R : Type} (call : FuncId → Fun) (icall : ICall R) (ops : List Oper) (o : Oper) (r : List Oper) (S : St) (K : St → Option R) :
    opsK c call icall ops (o :: r) S K = stepK c call icall ops o S fun S' => opsK c call icall ops r S' K := by
  simp only [opsK, stepK, putK_putS]
  cases o.guard with
  | none => rfl
  | some p =>
    obtain ⟨j, want⟩ := p
    simp only [guardSlot]
    cases (ops[j]?).bind (·.dst) with
    | none => rfl
    | some t =>
      simp only
      cases hg : S.get t with
      | bool b =>
        simp only
        have hsame : ∀ b', b' = b → putS S (some t) (.bool b') = S := by
          intro b' hb; subst hb
          simp only [putS, ← hg, St.get, set_get]
        split
        · rename_i hb; rw [hsame want hb.symm]
        · rename_i hb; rw [hsame (!want) (by cases b <;> cases want <;> simp_all)]
      | raw v =>
        cases v with
        | tuple a => obtain ⟨l⟩ := a; cases l <;> rfl
        | _ => rfl
      | _ => rfl

structure StepOk (c : Cfg) (ops : List Oper) (o : Oper) (F : St → Option St) : Prop where
  frame : ∀ S S', F S = some S' → (∀ t, t ∉ opWrites c ops o → S'.env[t]? = S.env[t]?) ∧ S'.env.length = S.env.length ∧ (opClassAt c ops o ≠ 2 → S'.objs = S.objs)
  dep : ∀ L S S2 S', F S = some S' → Agr L S S2 → (∀ t ∈ opLooks ops o, t ∈ L) → (opClassAt c ops o ≠ 0 → S2.objs = S.objs) →
    ∃ S2', F S2 = some S2' ∧ Agr L S' S2' ∧ (∀ t ∈ opWrites c ops o, t ∉ L → t ∈ opSheds c ops o ∨ S2'.env[t]? = S'.env[t]?) ∧ (opClassAt c ops o = 2 → S2'.objs = S'.objs)
  ld : isLd o = true → (∀ S S', F S = some S' → softL S'.objs = softL S.objs) ∧ (opClassAt c ops o = 1 → ∀ L S S2 S', F S = some S' → Agr L S S2 → (∀ t ∈ opLooks ops o, t ∈ L) → softL S2.objs = softL S.objs →
    ∃ S2', F S2 = some S2' ∧ Agr L S' S2' ∧ (∀ t ∈ opWrites c ops o, t ∉ L → t ∈ opSheds c ops o ∨ S2'.env[t]? = S'.env[t]?))

theorem putS_env (S : St) (d : Option Tmp) (v : V) : (putS S d v).env.length = S.env.length ∧ (putS S d v).objs = S.objs ∧ (∀ t, d ≠ some t → (putS S d v).env[t]? = S.env[t]?) ∧ ∀ t, d = some t → t < S.env.length → (putS S d v).env[t]? = some v := by
  cases d with
  | none => exact ⟨rfl, rfl, fun _ _ => rfl, fun _ h => by cases h⟩
  | some d =>
    refine ⟨by simp [putS], rfl, fun t h => ?_, fun t h hl => ?_⟩
    · simp only [putS]; rw [List.getElem?_set_ne (fun e => h (by rw [e]))]
    · cases h; simp only [putS]; rw [List.getElem?_set_self hl]

theorem putS_agr {L : List Nat} {S S2 : St} (h : Agr L S S2) (d : Option Tmp) (v : V) : Agr L (putS S d v) (putS S2 d v) ∧ ∀ t, d = some t → (putS S2 d v).env[t]? = (putS S d v).env[t]? := by
  have key : ∀ t, d = some t → (putS S2 d v).env[t]? = (putS S d v).env[t]? := fun t ht => by
    by_cases hl : t < S.env.length
    · rw [(putS_env S2 d v).2.2.2 t ht (by rw [h.1]; exact hl), (putS_env S d v).2.2.2 t ht hl]
    · have e1 : (putS S2 d v).env[t]? = none := List.getElem?_eq_none (by rw [(putS_env S2 d v).1, h.1]; exact Nat.le_of_not_lt hl)
      have e2 : (putS S d v).env[t]? = none := List.getElem?_eq_none (by rw [(putS_env S d v).1]; exact Nat.le_of_not_lt hl)
      rw [e1, e2]
  refine ⟨⟨by rw [(putS_env S2 d v).1, (putS_env S d v).1, h.1], fun t ht => ?_⟩, key⟩
  by_cases hd : d = some t
  · exact key t hd
  · rw [(putS_env S2 d v).2.2.1 t hd, (putS_env S d v).2.2.1 t hd, h.2 t ht]

theorem stepF_ex (hinl : ∀ f, c.inl f = false) (call : FuncId → Fun) (ops : List Oper) (o : Oper) :
    ∃ F : St → Option St, (∀ (R : Type) (icall : ICall R) (S : St) (K : St → Option R), stepK c call icall ops o S K = (F S).bind K) ∧ StepOk c ops o F := by
  obtain ⟨G, hG, hloc, hld⟩ := opF_ex hinl call ops o
  have hreads : ∀ t ∈ opReads o.op, t ∈ opLooks ops o := fun t ht => by simp [opLooks, ht]
  have runs : ∀ S S', ((G S).bind fun p => some (putS p.2 o.dst p.1)) = some S' → (∀ t, t ∉ opWrites c ops o → S'.env[t]? = S.env[t]?) ∧ S'.env.length = S.env.length ∧ (opClassAt c ops o ≠ 2 → S'.objs = S.objs) := by
    intro S S' h
    obtain ⟨⟨v, T⟩, h1, h2⟩ := Option.bind_eq_some_iff.1 h
    cases h2
    obtain ⟨f1, f2, f3⟩ := hloc.frame S v T h1
    obtain ⟨p1, p2, p3, p4⟩ := putS_env T o.dst v
    refine ⟨fun t ht => ?_, by rw [p1, f2], fun hk => by rw [p2, f3 hk]⟩
    simp only [opWrites, List.mem_append, not_or] at ht
    rw [p3 t (by intro h; apply ht.1; simp [h]), f1 t ht.2]
  have deps : ∀ L S S2 S', ((G S).bind fun p => some (putS p.2 o.dst p.1)) = some S' → Agr L S S2 → (∀ t ∈ opLooks ops o, t ∈ L) → (opClassAt c ops o ≠ 0 → S2.objs = S.objs) →
      ∃ S2', ((G S2).bind fun p => some (putS p.2 o.dst p.1)) = some S2' ∧ Agr L S' S2' ∧ (∀ t ∈ opWrites c ops o, t ∉ L → t ∈ opSheds c ops o ∨ S2'.env[t]? = S'.env[t]?) ∧ (opClassAt c ops o = 2 → S2'.objs = S'.objs) := by
    intro L S S2 S' h ha hL ho
    obtain ⟨⟨v, T⟩, h1, h2⟩ := Option.bind_eq_some_iff.1 h
    cases h2
    obtain ⟨T2, d1, d2, d3⟩ := hloc.dep L S S2 v T h1 ha (fun t ht => hL t (hreads t ht)) ho
    obtain ⟨a1, a2⟩ := putS_agr d2 o.dst v
    refine ⟨putS T2 o.dst v, by rw [d1]; rfl, a1, fun t ht _ => ?_, fun hk => by rw [(putS_env T2 o.dst v).2.1, (putS_env T o.dst v).2.1, d3 hk]⟩
    simp only [opWrites, List.mem_append] at ht
    rcases ht with ht | ht
    · exact .inr (a2 t (by simpa using ht))
    · exact .inl ht
  have mild : isLd o = true → ∀ S S', ((G S).bind fun p => some (putS p.2 o.dst p.1)) = some S' → softL S'.objs = softL S.objs := by
    intro hl S S' h
    obtain ⟨⟨v, T⟩, h1, h2⟩ := Option.bind_eq_some_iff.1 h
    cases h2
    rw [(putS_env T o.dst v).2.1]
    exact (hld hl).1 S v T h1
  have softd : isLd o = true → opClassAt c ops o = 1 → ∀ L S S2 S', ((G S).bind fun p => some (putS p.2 o.dst p.1)) = some S' → Agr L S S2 → (∀ t ∈ opLooks ops o, t ∈ L) → softL S2.objs = softL S.objs →
      ∃ S2', ((G S2).bind fun p => some (putS p.2 o.dst p.1)) = some S2' ∧ Agr L S' S2' ∧ (∀ t ∈ opWrites c ops o, t ∉ L → t ∈ opSheds c ops o ∨ S2'.env[t]? = S'.env[t]?) := by
    intro hl hk L S S2 S' h ha hL ho
    obtain ⟨⟨v, T⟩, h1, h2⟩ := Option.bind_eq_some_iff.1 h
    cases h2
    obtain ⟨T2, d1, d2⟩ := (hld hl).2 hk L S S2 v T h1 ha (fun t ht => hL t (hreads t ht)) ho
    obtain ⟨a1, a2⟩ := putS_agr d2 o.dst v
    refine ⟨putS T2 o.dst v, by rw [d1]; rfl, a1, fun t ht _ => ?_⟩
    simp only [opWrites, List.mem_append] at ht
    rcases ht with ht | ht
    · exact .inr (a2 t (by simpa using ht))
    · exact .inl ht
  have skips : ∀ S, (∀ t, t ∉ opWrites c ops o → (putS S o.dst skipV).env[t]? = S.env[t]?) ∧ (putS S o.dst skipV).env.length = S.env.length ∧ (putS S o.dst skipV).objs = S.objs := by
    intro S
    obtain ⟨p1, p2, p3, p4⟩ := putS_env S o.dst skipV
    refine ⟨fun t ht => ?_, p1, p2⟩
    simp only [opWrites, List.mem_append, not_or] at ht
    rw [p3 t (by intro h; apply ht.1; simp [h])]
  have skipd : ∀ L S S2, Agr L S S2 → Agr L (putS S o.dst skipV) (putS S2 o.dst skipV) ∧ ∀ t ∈ opWrites c ops o, t ∉ L → t ∈ opSheds c ops o ∨ (putS S2 o.dst skipV).env[t]? = (putS S o.dst skipV).env[t]? := by
    intro L S S2 ha
    obtain ⟨a1, a2⟩ := putS_agr ha o.dst skipV
    refine ⟨a1, fun t ht _ => ?_⟩
    simp only [opWrites, List.mem_append] at ht
    rcases ht with ht | ht
    · exact .inr (a2 t (by simpa using ht))
    · exact .inl ht
  cases hgd : o.guard with
  | none =>
    refine ⟨fun S => (G S).bind fun p => some (putS p.2 o.dst p.1), fun R icall S K => ?_, ⟨runs, deps, fun hl => ⟨mild hl, softd hl⟩⟩⟩
    simp only [stepK, hgd, hG, Option.bind_assoc]
    rfl
  | some p =>
    obtain ⟨j, want⟩ := p
    refine ⟨fun S => match guardSlot ops j with
      | none => none
      | some t => match S.get t with
        | .bool b => if b = want then (G S).bind fun p => some (putS p.2 o.dst p.1) else some (putS S o.dst skipV)
        | .raw (.tuple ⟨[]⟩) => some (putS S o.dst skipV)
        | _ => none, fun R icall S K => ?_, ⟨fun S S' h => ?_, fun L S S2 S' h ha hL ho => ?_, fun hl => ⟨fun S S' h => ?_, fun hk L S S2 S' h ha hL ho => ?_⟩⟩⟩
    · simp only [stepK, hgd]
      cases guardSlot ops j with
      | none => rfl
      | some t =>
        simp only
        cases S.get t with
        | bool b =>
          simp only
          split
          · simp only [hG, Option.bind_assoc]; rfl
          · rfl
        | raw v =>
          cases v with
          | tuple a => obtain ⟨l⟩ := a; cases l <;> rfl
          | _ => rfl
        | _ => rfl
    · split at h
      · cases h
      · split at h
        · split at h
          · exact runs S S' h
          · cases h
            exact ⟨(skips S).1, (skips S).2.1, fun _ => (skips S).2.2⟩
        · cases h
          exact ⟨(skips S).1, (skips S).2.1, fun _ => (skips S).2.2⟩
        · cases h
    · split at h
      · cases h
      · rename_i t ht
        have hg : S2.get t = S.get t := ha.get (hL t (by simp [opLooks, hgd]; left; simpa [guardSlot] using ht))
        simp only [hg]
        split at h
        · rename_i b hbb
          split at h
          · rename_i hb; simp only [if_pos hb]; exact deps L S S2 S' h ha hL ho
          · rename_i hb
            cases h
            simp only [if_neg hb]
            exact ⟨_, rfl, (skipd L S S2 ha).1, (skipd L S S2 ha).2, fun hk => by rw [(skips S2).2.2, (skips S).2.2]; exact ho (by omega)⟩
        · cases h
          exact ⟨_, rfl, (skipd L S S2 ha).1, (skipd L S S2 ha).2, fun hk => by rw [(skips S2).2.2, (skips S).2.2]; exact ho (by omega)⟩
        · cases h
    · split at h
      · cases h
      · split at h
        · split at h
          · exact mild hl S S' h
          · cases h; rw [(skips S).2.2]
        · cases h; rw [(skips S).2.2]
        · cases h
    · split at h
      · cases h
      · rename_i t ht
        have hg : S2.get t = S.get t := ha.get (hL t (by simp [opLooks, hgd]; left; simpa [guardSlot] using ht))
        simp only [hg]
        split at h
        · rename_i b hbb
          split at h
          · rename_i hb; simp only [if_pos hb]; exact softd hl hk L S S2 S' h ha hL ho
          · rename_i hb
            cases h
            simp only [if_neg hb]
            exact ⟨_, rfl, (skipd L S S2 ha).1, (skipd L S S2 ha).2⟩
        · cases h
          exact ⟨_, rfl, (skipd L S S2 ha).1, (skipd L S S2 ha).2⟩
        · cases h

theorem disj_spec {a b : List Nat} (h : disj a b = true) : ∀ t ∈ a, t ∉ b := by
  intro t ht hb
  simp only [disj, List.all_eq_true, Bool.not_eq_true', List.contains_eq_mem, decide_eq_false_iff_not] at h
  exact h t ht hb

theorem swap_ok {ops : List Oper} {x y : Oper} {Fx Fy : St → Option St} (hx : StepOk c ops x Fx) (hy : StepOk c ops y Fy) (hs : swaps c ops x y = true) {S S1 S12 : St} (h1 : Fx S = some S1) (h2 : Fy S1 = some S12) :
    ∃ S2, Fy S = some S2 ∧ Fx S2 = some S12 := by
  simp only [swaps, Bool.and_eq_true, Bool.or_eq_true, decide_eq_true_eq, beq_iff_eq] at hs
  obtain ⟨⟨s1, s2⟩, s3⟩ := hs
  have d1 := disj_spec s1
  have d2 := disj_spec s2
  obtain ⟨fx1, fx2, fx3⟩ := hx.frame S S1 h1
  obtain ⟨fy1, fy2, fy3⟩ := hy.frame S1 S12 h2
  -- y's step at S, by agreement with S1 outside what x writes
  have ha : Agr (opWrites c ops y ++ opLooks ops y) S1 S := by
    refine ⟨fx2.symm, fun t ht => ?_⟩
    rw [fx1 t (fun hw => d1 t hw ht)]
  have hyS : ∃ S2, Fy S = some S2 ∧ Agr (opWrites c ops y ++ opLooks ops y) S12 S2 ∧ (opClassAt c ops y = 2 → S2.objs = S12.objs) := by
    by_cases hkx : opClassAt c ops x = 2 ∧ opClassAt c ops y ≠ 0
    · rcases s3 with s3 | s3
      · omega
      · have hy1 : opClassAt c ops y = 1 := by rcases s3.2 with h | h <;> omega
        obtain ⟨S2, y1, y2, _⟩ := (hy.ld s3.1.2).2 hy1 _ S1 S S12 h2 ha (fun t ht => by simp [ht]) (((hx.ld s3.1.1).1 S S1 h1).symm)
        exact ⟨S2, y1, y2, fun h => by omega⟩
    · obtain ⟨S2, y1, y2, _, y4⟩ := hy.dep _ S1 S S12 h2 ha (fun t ht => by simp [ht]) (fun hk => (fx3 (by intro e; exact hkx ⟨e, hk⟩)).symm)
      exact ⟨S2, y1, y2, y4⟩
  obtain ⟨S2, y1, y2, y4⟩ := hyS
  obtain ⟨gy1, gy2, gy3⟩ := hy.frame S S2 y1
  have hb : Agr (opWrites c ops x ++ opLooks ops x) S S2 := by
    refine ⟨gy2, fun t ht => ?_⟩
    rw [gy1 t ?_]
    intro hw
    rw [List.mem_append] at ht
    rcases ht with ht | ht
    · exact d1 t ht (by simp [hw])
    · exact d2 t hw ht
  have hxS : ∃ S21, Fx S2 = some S21 ∧ Agr (opWrites c ops x ++ opLooks ops x) S1 S21 ∧ (opClassAt c ops x = 2 → S21.objs = S1.objs) := by
    by_cases hky : opClassAt c ops y = 2 ∧ opClassAt c ops x ≠ 0
    · rcases s3 with s3 | s3
      · omega
      · have hx1 : opClassAt c ops x = 1 := by rcases s3.2 with h | h <;> omega
        obtain ⟨S21, x1, x2, _⟩ := (hx.ld s3.1.1).2 hx1 _ S S2 S1 h1 hb (fun t ht => by simp [ht]) ((hy.ld s3.1.2).1 S S2 y1)
        exact ⟨S21, x1, x2, fun h => by omega⟩
    · obtain ⟨S21, x1, x2, _, x4⟩ := hx.dep _ S S2 S1 h1 hb (fun t ht => by simp [ht]) (fun hk => gy3 (by intro e; exact hky ⟨e, hk⟩))
      exact ⟨S21, x1, x2, x4⟩
  obtain ⟨S21, x1, x2, x4⟩ := hxS
  obtain ⟨gx1, gx2, gx3⟩ := hx.frame S2 S21 x1
  refine ⟨S2, y1, ?_⟩
  rw [x1]
  congr 1
  have henv : S21.env = S12.env := by
    apply List.ext_getElem?
    intro t
    by_cases hxw : t ∈ opWrites c ops x
    · rw [x2.2 t (by simp [hxw]), fy1 t (fun h => d1 t hxw (by simp [h]))]
    · rw [gx1 t hxw]
      by_cases hyw : t ∈ opWrites c ops y
      · exact y2.2 t (by simp [hyw])
      · rw [gy1 t hyw, fy1 t hyw, fx1 t hxw]
  have hobj : S21.objs = S12.objs := by
    by_cases k1 : opClassAt c ops x = 2
    · rw [x4 k1, fy3 (by rcases s3 with s3 | s3; omega; rcases s3.2 with h | h <;> omega)]
    · rw [gx3 k1]
      by_cases k2 : opClassAt c ops y = 2
      · exact y4 k2
      · rw [gy3 k2, fy3 k2, fx3 k1]
  cases S21; cases S12
  simp_all

theorem stepK_some {R : Type} (hinl : ∀ f, c.inl f = false) {call : FuncId → Fun} {ops : List Oper} {o : Oper} : ∃ F, StepOk c ops o F ∧ ∀ (R : Type) (icall : ICall R) (S : St) (K : St → Option R), stepK c call icall ops o S K = (F S).bind K := by
  obtain ⟨F, h1, h2⟩ := stepF_ex hinl call ops o
  exact ⟨F, h2, h1⟩

/-- An operation that may be swapped with all ahead of it may come first. -/
theorem opsK_front {R : Type} (hinl : ∀ f, c.inl f = false) {call : FuncId → Fun} {icall : ICall R} {ops : List Oper} {y : Oper} {post : List Oper} {K : St → Option R} {r : R} : ∀ (pre : List Oper) (S : St),
    (∀ x ∈ pre, swaps c ops x y = true) → opsK c call icall ops (pre ++ y :: post) S K = some r → opsK c call icall ops (y :: (pre ++ post)) S K = some r
  | [], _, _, h => h
  | x :: pre, S, hs, h => by
    obtain ⟨Fx, hFx, ex⟩ := stepK_some (R := R) hinl (call := call) (ops := ops) (o := x)
    obtain ⟨Fy, hFy, ey⟩ := stepK_some (R := R) hinl (call := call) (ops := ops) (o := y)
    rw [List.cons_append, opsK_cons, ex] at h
    obtain ⟨S1, h1, h2⟩ := Option.bind_eq_some_iff.1 h
    have h3 := opsK_front hinl pre S1 (fun z hz => hs z (by simp [hz])) h2
    rw [opsK_cons, ey] at h3
    obtain ⟨S12, h4, h5⟩ := Option.bind_eq_some_iff.1 h3
    obtain ⟨S2, h6, h7⟩ := swap_ok hFx hFy (hs x (by simp)) h1 h4
    rw [opsK_cons, ey, h6]
    show opsK c call icall ops (x :: (pre ++ post)) S2 K = some r
    rw [opsK_cons, ex, h7]
    exact h5
end
end Go.Ev
