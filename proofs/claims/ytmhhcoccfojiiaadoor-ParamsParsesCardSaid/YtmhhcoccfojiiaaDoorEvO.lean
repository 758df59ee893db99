/- Each operation: where it looks, and what it turns. -/
import Derived.Test.YtmhhcoccfojiiaaDoorEvN
namespace Go.Ev

section
variable {c : Cfg}

theorem mem_tmps {t : Nat} {l : List Operand} : t ∈ tmpsOf l ↔ Operand.tmp t ∈ l := by
  simp only [tmpsOf, List.mem_filterMap]
  constructor
  · rintro ⟨x, hx, h⟩
    cases x <;> simp at h
    subst h; exact hx
  · intro h; exact ⟨_, h, rfl⟩

/-- What a call gives, by its arguments and the objects. -/
def callP (c : Cfg) (call : FuncId → Fun) (f : FuncId) (args : List V) (objs : List Ob) : Option (V × List Ob) :=
  match c.fn f with
  | none => none
  | some fn => match rshOf c fn (c.rtip f) with
    | none => none
    | some rsh => callOut c call rsh f args ⟨[], objs⟩ fun v S => some (v, S.objs)

theorem backObK_bind {R : Type} : ∀ (js : List Nat) (os objs : List Ob) (K : List Ob → Option R), backObK js os objs K = (backObK js os objs some).bind K
  | [], _, _, _ => by simp [backObK]
  | _ :: _, [], _, _ => by simp [backObK]
  | j :: js, o :: os, objs, K => by simp only [backObK, setK_eq]; exact backObK_bind js os _ K

theorem enter_bind (hinl : ∀ f, c.inl f = false) {R : Type} (call : FuncId → Fun) (icall : ICall R) (f : FuncId) (args : List V) (S : St) (K : V → St → Option R) :
    enter c call icall f args S K = (callP c call f args S.objs).bind fun p => K p.1 ⟨S.env, p.2⟩ := by
  obtain ⟨env, objs⟩ := S
  unfold enter callP
  rw [hinl f]
  simp only [Bool.false_eq_true, if_false]
  cases c.fn f with
  | none => rfl
  | some fn =>
    simp only
    cases rshOf c fn (c.rtip f) with
    | none => rfl
    | some rsh =>
      simp only
      unfold callOut
      have e1 : St.ob ⟨env, objs⟩ = fun j => objs.getD j .dead := rfl
      have e2 : St.ob ⟨[], objs⟩ = fun j => objs.getD j .dead := rfl
      simp only [e1, e2]
      split
      · rw [Option.bind_assoc]
        congr 1
        funext p
        cases c.still f with
        | true => rfl
        | false =>
          simp only [Bool.false_eq_true, if_false]
          rw [backObK_bind]
          conv => rhs; rw [backObK_bind]
          rw [Option.bind_assoc]
          rfl
      · rfl

theorem callP_ro {call : FuncId → Fun} {f : FuncId} {args : List V} {objs : List Ob} {p : V × List Ob} (h : callP c call f args objs = some p) (hr : c.still f = true) : p.2 = objs := by
  unfold callP at h
  split at h
  · cases h
  · split at h
    · cases h
    · unfold callOut at h
      dsimp only at h
      split at h
      · obtain ⟨q, _, h2⟩ := Option.bind_eq_some_iff.1 h
        simp only [hr, if_true, Option.some.injEq] at h2
        rw [← h2]
      · cases h

def passP (c : Cfg) (f : FuncId) : Nat → St → List Operand → List TypeId → List V × St
  | _, S, [], _ => ([], S)
  | i, S, x :: r, ts =>
    let p := passP c f (i + 1) S r ts.tail
    if c.wants f i then (opd c p.2 (ts.headD 0) x :: p.1, shedS p.2 x) else ((opd c p.2 (ts.headD 0) x).cut :: p.1, p.2)
theorem passK_eq {R : Type} (f : FuncId) : ∀ (l : List Operand) (i : Nat) (S : St) (ts : List TypeId) (K : List V → St → Option R), passK c f i S l ts K = K (passP c f i S l ts).1 (passP c f i S l ts).2
  | [], i, S, ts, K => rfl
  | x :: r, i, S, ts, K => by
    simp only [passK, passP, passK_eq f r]
    split
    · rw [shedK_eq]
    · rfl
theorem passP_frame (f : FuncId) : ∀ (l : List Operand) (i : Nat) (S : St) (ts : List TypeId), (∀ t, t ∉ tmpsOf l → (passP c f i S l ts).2.env[t]? = S.env[t]?) ∧ (passP c f i S l ts).2.env.length = S.env.length ∧ (passP c f i S l ts).2.objs = S.objs
  | [], i, S, ts => ⟨fun _ _ => rfl, rfl, rfl⟩
  | x :: r, i, S, ts => by
    obtain ⟨h1, h2, h3⟩ := passP_frame f r (i + 1) S ts.tail
    have hr : ∀ t, t ∉ tmpsOf (x :: r) → t ∉ tmpsOf r ∧ x ≠ .tmp t := fun t ht => by
      rw [mem_tmps] at ht ⊢
      simp only [List.mem_cons, not_or] at ht
      exact ⟨ht.2, fun h => ht.1 h.symm⟩
    simp only [passP]
    split
    · exact ⟨fun t ht => by rw [shedS_out _ _ _ (hr t ht).2, h1 t (hr t ht).1], by rw [shedS_len, h2], by rw [shedS_objs, h3]⟩
    · exact ⟨fun t ht => h1 t (hr t ht).1, h2, h3⟩
theorem passP_dep {L : List Nat} (f : FuncId) : ∀ (l : List Operand) (i : Nat) (S S2 : St) (ts : List TypeId), (∀ t ∈ tmpsOf l, t ∈ L) → Agr L S S2 → (passP c f i S2 l ts).1 = (passP c f i S l ts).1 ∧ Agr L (passP c f i S l ts).2 (passP c f i S2 l ts).2
  | [], i, S, S2, ts, _, h => ⟨rfl, h⟩
  | x :: r, i, S, S2, ts, hl, h => by
    have hx : ∀ t, x = .tmp t → t ∈ L := fun t ht => hl t (by rw [mem_tmps, ht]; simp)
    obtain ⟨h1, h2⟩ := passP_dep f r (i + 1) S S2 ts.tail (fun t ht => hl t (by rw [mem_tmps] at ht ⊢; exact List.mem_cons_of_mem _ ht)) h
    simp only [passP]
    split
    · exact ⟨by simp only [h2.opd hx, h1], h2.shed hx⟩
    · exact ⟨by simp only [h2.opd hx, h1], h2⟩
theorem argsOf_congr {S S2 : St} : ∀ (l : List Operand) (ts : List TypeId), (∀ x ∈ l, ∀ t, opd c S2 t x = opd c S t x) → argsOf c S2 l ts = argsOf c S l ts
  | [], _, _ => rfl
  | x :: r, ts, h => by simp only [argsOf, h x (by simp), argsOf_congr r ts.tail (fun y hy => h y (by simp [hy]))]

/-- A load: objects stay as they are, but for the right to append; and but for that it may look at others. -/
def LdOk (c : Cfg) (ops : List Oper) (o : Oper) (F : St → Option (V × St)) : Prop :=
  isLd o = true → (∀ S v S', F S = some (v, S') → softL S'.objs = softL S.objs) ∧
    (opClassAt c ops o = 1 → ∀ L S S2 v S', F S = some (v, S') → Agr L S S2 → (∀ t ∈ opReads o.op, t ∈ L) → softL S2.objs = softL S.objs → ∃ S2', F S2 = some (v, S2') ∧ Agr L S' S2')
theorem LdOk.no {c : Cfg} {ops : List Oper} {o : Oper} {F : St → Option (V × St)} (h : isLd o = false) : LdOk c ops o F := fun h' => by rw [h] at h'; cases h'

def HasF (c : Cfg) (call : FuncId → Fun) (ops : List Oper) (o : Oper) : Prop :=
  ∃ F : St → Option (V × St), (∀ (R : Type) (icall : ICall R) (S : St) (K : V → St → Option R), opK c call icall ops o S K = (F S).bind fun p => K p.1 p.2) ∧
    Loc F (opReads o.op) (opSheds c ops o) (opClassAt c ops o) ∧ LdOk c ops o F

theorem HasF.val {call : FuncId → Fun} {ops : List Oper} {o : Oper} (f : St → Option V)
    (he : ∀ (R : Type) (icall : ICall R) (S : St) (K : V → St → Option R), opK c call icall ops o S K = (f S).bind fun v => K v S)
    (h : ∀ S S2, (∀ x ∈ o.op.operands.toList, ∀ t, opd c S2 t x = opd c S t x) → f S2 = f S) (hn : isLd o = false := by rfl) : HasF c call ops o :=
  ⟨fun S => (f S).bind fun v => some (v, S), fun R icall S K => by rw [he, Option.bind_assoc]; rfl,
    (Loc.val (looks := opReads o.op) fun S S2 ha => h S S2 fun x hx t => ha.opd (fun s hs => by rw [opReads, mem_tmps, ← hs]; exact hx) t).mono (fun _ h => h) (fun _ h => by cases h) (.inr (.inl rfl)), LdOk.no hn⟩

theorem HasF.valShed {call : FuncId → Fun} {ops : List Oper} {o : Oper} (f : St → Option V) (x : Operand) (hx : x ∈ o.op.operands.toList) (hs : opSheds c ops o = tmpsOf [x])
    (he : ∀ (R : Type) (icall : ICall R) (S : St) (K : V → St → Option R), opK c call icall ops o S K = (f S).bind fun v => K v (shedS S x))
    (h : ∀ S S2, (∀ x ∈ o.op.operands.toList, ∀ t, opd c S2 t x = opd c S t x) → f S2 = f S) (hn : isLd o = false := by rfl) : HasF c call ops o :=
  ⟨fun S => (f S).bind fun v => some (v, shedS S x), fun R icall S K => by rw [he, Option.bind_assoc]; rfl,
    (Loc.valShed (looks := opReads o.op) (fun S S2 ha => h S S2 fun x hx t => ha.opd (fun s hs => by rw [opReads, mem_tmps, ← hs]; exact hx) t) x (fun t ht => by rw [opReads, mem_tmps, ← ht]; exact hx)).mono
      (fun _ h => h) (fun _ h => by rw [hs]; exact h) (.inr (.inl rfl)), LdOk.no hn⟩

theorem HasF.obj {call : FuncId → Fun} {ops : List Oper} {o : Oper} (f : St → Option (V × List Ob)) (xs : List Operand) (hx : ∀ x ∈ xs, x ∈ o.op.operands.toList) (hs : opSheds c ops o = tmpsOf xs) (hk : opClassAt c ops o = 2)
    (he : ∀ (R : Type) (icall : ICall R) (S : St) (K : V → St → Option R), opK c call icall ops o S K = (f S).bind fun p => K p.1 ⟨(xs.foldl shedS S).env, p.2⟩)
    (h : ∀ S S2, S2.objs = S.objs → (∀ x ∈ o.op.operands.toList, ∀ t, opd c S2 t x = opd c S t x) → f S2 = f S)
    (hn : LdOk c ops o (fun S => (f S).bind fun p => some (p.1, ⟨(xs.foldl shedS S).env, p.2⟩)) := by exact LdOk.no rfl) : HasF c call ops o :=
  ⟨fun S => (f S).bind fun p => some (p.1, ⟨(xs.foldl shedS S).env, p.2⟩), fun R icall S K => by rw [he]; rw [Option.bind_assoc]; rfl,
    (Loc.obj (looks := opReads o.op) (fun S S2 ha ho => h S S2 ho fun x hx t => ha.opd (fun s hs => by rw [opReads, mem_tmps, ← hs]; exact hx) t) xs (fun x hx' t ht => by rw [opReads, mem_tmps, ← ht]; exact hx x hx')).mono
      (fun _ h => h) (fun _ h => by rw [hs]; exact h) (.inl hk), hn⟩

theorem HasF.look {call : FuncId → Fun} {ops : List Oper} {o : Oper} (f : St → Option V) (hk : opClassAt c ops o = 1)
    (he : ∀ (R : Type) (icall : ICall R) (S : St) (K : V → St → Option R), opK c call icall ops o S K = (f S).bind fun v => K v S)
    (h : ∀ S S2, S2.objs = S.objs → (∀ x ∈ o.op.operands.toList, ∀ t, opd c S2 t x = opd c S t x) → f S2 = f S)
    (hn : LdOk c ops o (fun S => (f S).bind fun v => some (v, S)) := by exact LdOk.no rfl) : HasF c call ops o :=
  ⟨fun S => (f S).bind fun v => some (v, S), fun R icall S K => by rw [he, Option.bind_assoc]; rfl,
    (Loc.look (looks := opReads o.op) fun S S2 ha ho => h S S2 ho fun x hx t => ha.opd (fun s hs => by rw [opReads, mem_tmps, ← hs]; exact hx) t).mono (fun _ h => h) (fun _ h => by cases h) (.inl hk), hn⟩

theorem HasF.none {call : FuncId → Fun} {ops : List Oper} {o : Oper} (he : ∀ (R : Type) (icall : ICall R) (S : St) (K : V → St → Option R), opK c call icall ops o S K = Option.none) (hn : isLd o = false := by rfl) : HasF c call ops o :=
  HasF.val (fun _ => Option.none) (fun R icall S K => he R icall S K) (fun _ _ _ => rfl) hn

theorem St.cells_get {S : St} {i : Nat} {cs : List V} (h : S.ob i = .cells cs) : S.objs[i]? = some (.cells cs) := by
  unfold St.ob at h
  rw [List.getD] at h
  cases ho : S.objs[i]? with
  | none => rw [ho] at h; cases h
  | some o => rw [ho] at h; simp at h; rw [h]
theorem St.ob_of {S S2 : St} (h : S2.objs = S.objs) (i : Nat) : S2.ob i = S.ob i := by simp [St.ob, h]

theorem opF_ex (hinl : ∀ f, c.inl f = false) (call : FuncId → Fun) (ops : List Oper) (o : Oper) : HasF c call ops o := by
  obtain ⟨dst, op, type, pos, after, guard⟩ := o
  cases op
  case move x =>
    by_cases ho : owned c ops dst = true
    · refine .valShed (fun S => some (opd c S type x)) x (by simp [Op.operands]) (by simp [opSheds, ho]) (fun R icall S K => ?_) fun S S2 h => by simp [h x (by simp [Op.operands])]
      simp [opK, ho, shedK_eq]
    · refine .val (fun S => some (opd c S type x).cut) (fun R icall S K => ?_) fun S S2 h => by simp [h x (by simp [Op.operands])]
      simp [opK, ho]
  case assign x =>
    refine .valShed (fun S => some (opd c S type x)) x (by simp [Op.operands]) rfl (fun R icall S K => ?_) fun S S2 h => by simp [h x (by simp [Op.operands])]
    simp [opK, shedK_eq]
  case pick cx x y =>
    refine .val (fun S => match opd c S 0 cx with | .bool true => some (opd c S type x).cut | .bool false => some (opd c S type y).cut | _ => none) (fun R icall S K => ?_) fun S S2 h => ?_
    · simp only [opK]; cases opd c S 0 cx <;> first | rfl | (rename_i b; cases b <;> rfl)
    · simp only [h cx (by simp [Op.operands]), h x (by simp [Op.operands]), h y (by simp [Op.operands])]
  case binOp op t x y ty =>
    refine .val (fun S => binV c op t (opd c S t x) (opd c S ty y) some) (fun R icall S K => ?_) fun S S2 h => ?_
    · simp only [opK]; exact binV_bind _ _ _ _ _
    · simp only [h x (by simp [Op.operands]), h y (by simp [Op.operands])]
  case unOp op t x =>
    cases op
    case not =>
      refine .val (fun S => match opd c S type x with | .bool b => some (.bool !b) | _ => none) (fun R icall S K => ?_) fun S S2 h => ?_
      · simp only [opK]; cases opd c S type x <;> rfl
      · simp only [h x (by simp [Op.operands])]
    case neg =>
      refine .val (fun S => match opd c S type x with | .int k n => some (.int k (k.wrap (0 - n))) | _ => none) (fun R icall S K => ?_) fun S S2 h => ?_
      · simp only [opK]; cases opd c S type x <;> rfl
      · simp only [h x (by simp [Op.operands])]
    case xor =>
      refine .val (fun S => match opd c S type x with | .int k n => some (.int k (bits .xor k (if k.signed then -1 else k.max) n)) | _ => none) (fun R icall S K => ?_) fun S S2 h => ?_
      · simp only [opK]; cases opd c S type x <;> rfl
      · simp only [h x (by simp [Op.operands])]
    all_goals exact .none fun R icall S K => rfl
  case convert s d x =>
    refine .val (fun S => convV c s d (opd c S s x) some) (fun R icall S K => ?_) fun S S2 h => ?_
    · simp only [opK]; exact convV_bind _ _ _ _
    · simp only [h x (by simp [Op.operands])]
  case build t parts =>
    refine .val (fun S => buildV c t (parts.toList.map fun p => (p.1, opd c S (match c.ty t with | some { d := .struct fs, .. } => ((fs[p.1]?).map (·.type)).getD 0 | some { d := .array _ e, .. } => e | _ => 0) p.2 |>.cut))) (fun R icall S K => ?_) fun S S2 h => ?_
    · simp only [opK]; generalize buildV c t _ = v; cases v <;> rfl
    · congr 1
      refine List.map_congr_left fun p hp => ?_
      rw [h p.2 (by simp [Op.operands]; exact ⟨p.1, by simpa using hp⟩)]
  case buildSlice t n parts =>
    refine .val (fun S => match elemOf c t with
      | none => none
      | some e => match (sliceCells c e n (parts.toList.map fun p => (p.1, (opd c S e p.2).cut))).bind (chunksV c e n) with
        | none => none
        | some xs => if xs.all (fitsE c e) && (V.refsL xs).isEmpty && n * tySize c e ≤ 16777216 && 0 < tySize c e then some (.lst e true xs) else none) (fun R icall S K => ?_) fun S S2 h => ?_
    · simp only [opK]
      cases elemOf c t with
      | none => rfl
      | some e =>
        simp only
        generalize Option.bind (sliceCells c e n _) (chunksV c e n) = q
        cases q with
        | none => rfl
        | some xs =>
          simp only
          split <;> rfl
    · have : ∀ e, (parts.toList.map fun p => (p.1, (opd c S2 e p.2).cut)) = (parts.toList.map fun p => (p.1, (opd c S e p.2).cut)) := fun e =>
        List.map_congr_left fun p hp => by rw [h p.2 (by simp [Op.operands]; exact ⟨p.1, by simpa using hp⟩)]
      simp only [this]
  case alloc t =>
    refine .obj (fun S => match c.ty t with | some y => some (.ref S.objs.length 0, S.objs ++ [.cells y.zero]) | none => none) [] (by simp) rfl rfl (fun R icall S K => ?_) fun S S2 ho h => ?_
    · simp only [opK]; cases c.ty t with
      | none => rfl
      | some y => simp only [newK_eq]; rfl
    · simp only [ho]
  case box t x =>
    refine .obj (fun S => if (opd c S t x).cells.length == tySize c t && (opd c S t x).cells.all V.single then some (.ref S.objs.length 0, S.objs ++ [.cells (opd c S t x).cells]) else none) [x] (by simp [Op.operands]) rfl rfl (fun R icall S K => ?_) fun S S2 ho h => ?_
    · simp only [opK, shedK_eq, newK_eq, shedS_objs]
      generalize (((opd c S t x).cells.length == tySize c t) && (opd c S t x).cells.all V.single) = b
      cases b <;> rfl
    · simp only [ho, h x (by simp [Op.operands])]
  case load t x =>
    have hl : ∀ S S2 : St, S2.objs = S.objs → ∀ p, loadV c S2 t p = loadV c S t p := fun S S2 ho p => by unfold loadV; split <;> simp only [St.ob_of ho]
    by_cases ho : owned c ops dst = true
    · refine .obj (fun S => match loadV c S t (opd c S 0 x) with
        | some v => if (opd c S 0 x).isRef then (match opd c S 0 x with
          | .ref i off => (match S.ob i with | .cells cs => some (v, S.objs.set i (.cells (cutAt off (tySize c t) cs))) | _ => some (v, S.objs))
          | _ => some (v, S.objs)) else some (v.cut, S.objs)
        | none => none) [] (by simp) rfl (by simp [opClassAt, ho]) (fun R icall S K => ?_) (fun S S2 hob h => ?_) (fun _ => ⟨fun S v S' hf => ?_, fun h1 => by simp [opClassAt, ho] at h1⟩)
      · simp only [opK, ho, Bool.true_and]
        cases loadV c S t (opd c S 0 x) with
        | none => rfl
        | some v =>
          simp only
          cases opd c S 0 x with
          | ref i off =>
            simp only [V.isRef, if_true, shedMemK, setObK_eq]
            cases S.ob i <;> rfl
          | _ => rfl
      · simp only [h x (by simp [Op.operands]), hl S S2 hob, hob, St.ob_of hob]
      · obtain ⟨p, h1, h2⟩ := Option.bind_eq_some_iff.1 hf
        cases h2
        split at h1
        · split at h1
          · split at h1
            · split at h1
              · rename_i cs hob
                cases h1
                exact softL_set (St.cells_get hob) (by simp only [softO, cutAt_soft])
              · cases h1; rfl
            · cases h1; rfl
          · cases h1; rfl
        · cases h1
    · have ho : owned c ops dst = false := by simpa using ho
      refine .look (fun S => (loadV c S t (opd c S 0 x)).map V.cut) (by simp [opClassAt, ho]) (fun R icall S K => ?_) (fun S S2 hob h => ?_) (fun _ => ⟨fun S v S' hf => ?_, fun _ L S S2 v S' hf ha hL hsoft => ?_⟩)
      · simp only [opK, ho, Bool.false_and, Bool.false_eq_true, if_false]
        cases loadV c S t (opd c S 0 x) <;> rfl
      · simp only [h x (by simp [Op.operands]), hl S S2 hob]
      · obtain ⟨u, _, h2⟩ := Option.bind_eq_some_iff.1 hf
        cases h2; rfl
      · obtain ⟨u, h1, h2⟩ := Option.bind_eq_some_iff.1 hf
        cases h2
        refine ⟨S2, ?_, ha⟩
        have hx : opd c S2 0 x = opd c S 0 x := ha.opd (fun s hs => hL s (by rw [opReads, mem_tmps, ← hs]; simp [Op.operands])) 0
        simp only [hx]
        rw [loadV_soft t _ hsoft, h1]
        rfl
  case store t x y =>
    refine .obj (fun S => match opd c S 0 x with
      | .ref i off => match S.ob i with
        | .cells cs => if (c.ty t).isSome && off + tySize c t ≤ cs.length && (opd c S t y).cells.length == tySize c t && (opd c S t y).cells.all V.single then some (.bot, S.objs.set i (.cells (over off (opd c S t y).cells cs))) else none
        | _ => none
      | _ => none) [y] (by simp [Op.operands]) rfl rfl (fun R icall S K => ?_) fun S S2 ho h => ?_
    · simp only [opK]
      rw [shedK_eq]
      unfold storeK
      have : ∀ i, (shedS S y).ob i = S.ob i := fun i => by simp [St.ob, shedS_objs]
      simp only [this, setObK_eq, shedS_objs]
      cases opd c S 0 x with
      | ref i off =>
        simp only
        cases S.ob i with
        | cells cs =>
          simp only
          split <;> rfl
        | _ => rfl
      | _ => rfl
    · simp only [h x (by simp [Op.operands]), h y (by simp [Op.operands]), St.ob_of ho, ho]
  case nilCheck x =>
    refine .val (fun S => match opd c S 0 x with
      | .ref i f => some (.ref i f)
      | .cpt cs => some (.cpt cs)
      | .clo f a b => (match f with | .func _ => some (.clo f a b) | _ => none)
      | _ => none) (fun R icall S K => ?_) fun S S2 h => ?_
    · simp only [opK]; cases opd c S 0 x with
      | clo f a b => cases f <;> rfl
      | _ => rfl
    · simp only [h x (by simp [Op.operands])]
  case fieldAddr t x f =>
    refine .val (fun S => match fieldsOf c t with
      | none => none
      | some fs => match fs[f]? with
        | none => none
        | some fd => if tySize c fd.type == 0 then none else
          match opd c S 0 x with
          | .ref i off => some (.ref i (off + fd.offset))
          | .cpt cs => some (.cpt (cs.drop fd.offset))
          | _ => none) (fun R icall S K => ?_) fun S S2 h => ?_
    · simp only [opK]; cases fieldsOf c t with
      | none => rfl
      | some fs =>
        simp only
        cases fs[f]? with
        | none => rfl
        | some fd =>
          simp only
          generalize (tySize c fd.type == 0) = b
          cases b with
          | true => rfl
          | false => simp only [Bool.false_eq_true, if_false]; cases opd c S 0 x <;> rfl
    · simp only [h x (by simp [Op.operands])]
  case field t x f =>
    refine .val (fun S => match fieldsOf c t with
      | none => none
      | some fs => match fs[f]?, opd c S t x with
        | some fd, .agg cs => (match partV c fd.type fd.offset cs with | some v => some v.cut | none => none)
        | _, _ => none) (fun R icall S K => ?_) fun S S2 h => ?_
    · simp only [opK]; cases fieldsOf c t with
      | none => rfl
      | some fs =>
        simp only
        cases fs[f]? with
        | none => rfl
        | some fd =>
          cases opd c S t x with
          | agg cs => simp only; cases partV c fd.type fd.offset cs <;> rfl
          | _ => rfl
    · simp only [h x (by simp [Op.operands])]
  case indexAddr t x i =>
    refine .val (fun S => match opd c S t x, opd c S 0 i with
      | .lst e _ xs, .int _ n => (match elemOf c t with
        | some e' => if e == e' && 0 < tySize c e then chk (decide (0 ≤ n)) (chk (decide (n < xs.length)) (some (.cpt (etaE c e (xs.getD n.toNat .bot)).cells))) else none
        | none => none)
      | _, _ => none) (fun R icall S K => ?_) fun S S2 h => ?_
    · simp only [opK]; cases opd c S t x with
      | lst e tp xs =>
        cases opd c S 0 i with
        | int k n =>
          simp only
          cases elemOf c t with
          | none => rfl
          | some e' =>
            simp only
            generalize (e == e' && decide (0 < tySize c e)) = b
            generalize decide (0 ≤ n) = b1
            generalize decide (n < (xs.length : Int)) = b2
            cases b <;> cases b1 <;> cases b2 <;> rfl
        | _ => rfl
      | _ => rfl
    · simp only [h x (by simp [Op.operands]), h i (by simp [Op.operands])]
  case index t x i =>
    refine .val (fun S => match opd c S 0 x, opd c S 0 i with
      | .str s, .int _ n => if isStr c t then chk (decide (0 ≤ n)) (chk (decide (n < s.length)) (some (.int .u8 (s.getD n.toNat 0).toNat))) else none
      | _, _ => none) (fun R icall S K => ?_) fun S S2 h => ?_
    · simp only [opK]; cases opd c S 0 x with
      | str s =>
        cases opd c S 0 i with
        | int k n =>
          simp only
          generalize isStr c t = b
          generalize decide (0 ≤ n) = b1
          generalize decide (n < (s.length : Int)) = b2
          cases b <;> cases b1 <;> cases b2 <;> rfl
        | _ => rfl
      | _ => rfl
    · simp only [h x (by simp [Op.operands]), h i (by simp [Op.operands])]
  case slice t x lo hi mx =>
    refine .val (fun S => if sliceOk c t (opd c S t x) && intB (lo.map (opd c S 0)) && intB (hi.map (opd c S 0)) then sliceV (opd c S t x) (lo.map (opd c S 0)) (hi.map (opd c S 0)) (mx.map (opd c S 0)) some else none) (fun R icall S K => ?_) fun S S2 h => ?_
    · simp only [opK]; split
      · exact sliceV_bind _ _ _ _ _
      · rfl
    · have h1 : lo.map (opd c S2 0) = lo.map (opd c S 0) := by cases lo with | none => rfl | some y => simp [h y (by simp [Op.operands])]
      have h2 : hi.map (opd c S2 0) = hi.map (opd c S 0) := by cases hi with | none => rfl | some y => simp [h y (by simp [Op.operands])]
      have h3 : mx.map (opd c S2 0) = mx.map (opd c S 0) := by cases mx with | none => rfl | some y => simp [h y (by simp [Op.operands])]
      simp only [h x (by simp [Op.operands]), h1, h2, h3]
  case extract x n =>
    refine .val (fun S => match opd c S 0 x with | .tup cs => if n < cs.length then some (cs.getD n .bot).cut else none | _ => none) (fun R icall S K => ?_) fun S S2 h => ?_
    · simp only [opK]; cases opd c S 0 x with
      | tup cs => simp only; split <;> rfl
      | _ => rfl
    · simp only [h x (by simp [Op.operands])]
  case makeFunc fn first caps =>
    refine .val (fun S => some (.clo fn (first.toList.map fun x => (opd c S 0 x).cut) (caps.toList.map fun x => (opd c S 0 x).cut))) (fun R icall S K => ?_) fun S S2 h => ?_
    · rfl
    · have h1 : (first.toList.map fun x => (opd c S2 0 x).cut) = (first.toList.map fun x => (opd c S 0 x).cut) := List.map_congr_left fun x hx => by rw [h x (by simp [Op.operands]; exact .inl (by simpa using hx))]
      have h2 : (caps.toList.map fun x => (opd c S2 0 x).cut) = (caps.toList.map fun x => (opd c S 0 x).cut) := List.map_congr_left fun x hx => by rw [h x (by simp [Op.operands]; exact .inr (by simpa using hx))]
      simp only [h1, h2]
  case call cl =>
    obtain ⟨callee, args, argTypes⟩ := cl
    have hmem : ∀ x ∈ args.toList, x ∈ (Op.call ⟨callee, args, argTypes⟩).operands.toList := fun x hx => by
      simp only [Op.operands, Call.operands]
      cases callee <;> simp <;> first | exact .inr (by simpa using hx) | exact (by simpa using hx)
    cases callee with
    | builtin b =>
      cases b
      case len =>
        rcases hl : args.toList with _ | ⟨x, _ | ⟨y, r⟩⟩
        · exact .none fun R icall S K => by simp only [opK, callV, hl]
        · rcases ht : argTypes.toList with _ | ⟨t, _ | ⟨t', r⟩⟩
          · exact .none fun R icall S K => by simp only [opK, callV, hl, ht]
          · refine .val (fun S => lenV c t (opd c S t x)) (fun R icall S K => ?_) fun S S2 h => by simp only [h x (hmem x (by simp [hl]))]
            simp only [opK, callV, hl, ht]
            cases lenV c t (opd c S t x) <;> rfl
          · exact .none fun R icall S K => by simp only [opK, callV, hl, ht]
        · exact .none fun R icall S K => by simp only [opK, callV, hl]
      case append =>
        rcases hl : args.toList with _ | ⟨x, _ | ⟨y, _ | ⟨z, r⟩⟩⟩
        · exact .none fun R icall S K => by simp only [opK, callV, hl]
        · exact .none fun R icall S K => by simp only [opK, callV, hl]
        · rcases ht : argTypes.toList with _ | ⟨t, _ | ⟨t', _ | ⟨t'', r⟩⟩⟩
          · exact .none fun R icall S K => by simp only [opK, callV, hl, ht]
          · exact .none fun R icall S K => by simp only [opK, callV, hl, ht]
          · refine .valShed (fun S => appendV c t t' (opd c S t x) (opd c S t' y) some) x (hmem x (by simp [hl])) (by simp [opSheds, hl]) (fun R icall S K => ?_) fun S S2 h => by
              simp only [h x (hmem x (by simp [hl])), h y (hmem y (by simp [hl]))]
            simp only [opK, callV, hl, ht, shedK_eq]
            exact appendV_bind _ _ _ _ _
          · exact .none fun R icall S K => by simp only [opK, callV, hl, ht]
        · exact .none fun R icall S K => by simp only [opK, callV, hl]
      case max =>
        refine .val (fun S => match argsOf c S args.toList argTypes.toList with | x :: r => (match foldV maxV x r with | some v => some v.cut | none => none) | _ => none) (fun R icall S K => ?_) fun S S2 h => by
          simp only [argsOf_congr args.toList argTypes.toList fun x hx t => h x (hmem x hx) t]
        simp only [opK, callV]
        cases argsOf c S args.toList argTypes.toList with
        | nil => rfl
        | cons x r => simp only; cases foldV maxV x r <;> rfl
      case min =>
        refine .val (fun S => match argsOf c S args.toList argTypes.toList with | x :: r => (match foldV minV x r with | some v => some v.cut | none => none) | _ => none) (fun R icall S K => ?_) fun S S2 h => by
          simp only [argsOf_congr args.toList argTypes.toList fun x hx t => h x (hmem x hx) t]
        simp only [opK, callV]
        cases argsOf c S args.toList argTypes.toList with
        | nil => rfl
        | cons x r => simp only; cases foldV minV x r <;> rfl
      all_goals exact .none fun R icall S K => rfl
    | invoke a b => exact .none fun R icall S K => rfl
    | value fo =>
      have hfo : fo ∈ (Op.call ⟨.value fo, args, argTypes⟩).operands.toList := by simp [Op.operands, Call.operands]
      let ag := fun (S : St) (f : FuncId) (first caps : List V) => if first.isEmpty then (passP c f 0 S args.toList argTypes.toList).1 ++ V.cutL caps else V.cutL (first ++ argsOf c S args.toList argTypes.toList ++ caps)
      let en := fun (S : St) (f : FuncId) (first : List V) => if first.isEmpty then (passP c f 0 S args.toList argTypes.toList).2.env else S.env
      let F : St → Option (V × St) := fun S => match opd c S 0 fo with
        | .clo (.func f) first caps => (callP c call f (ag S f first caps) S.objs).bind fun p => some (p.1, ⟨en S f first, p.2⟩)
        | _ => none
      have hcong : ∀ L S S2, Agr L S S2 → (∀ t ∈ opReads (Op.call ⟨.value fo, args, argTypes⟩), t ∈ L) → opd c S2 0 fo = opd c S 0 fo ∧ (∀ f first caps, ag S2 f first caps = ag S f first caps) ∧
          ∀ f first, (en S2 f first).length = (en S f first).length ∧ ∀ t ∈ L, (en S2 f first)[t]? = (en S f first)[t]? := by
        intro L S S2 ha hL
        have hx : ∀ x ∈ (Op.call ⟨.value fo, args, argTypes⟩).operands.toList, ∀ t, opd c S2 t x = opd c S t x := fun x hx t => ha.opd (fun s hs => hL s (by rw [opReads, mem_tmps, ← hs]; exact hx)) t
        have hp := fun f => passP_dep (c := c) f args.toList 0 S S2 argTypes.toList (fun t ht => hL t (by rw [opReads, mem_tmps]; rw [mem_tmps] at ht; exact hmem _ ht)) ha
        refine ⟨hx fo hfo 0, fun f first caps => ?_, fun f first => ?_⟩
        · simp only [ag]
          split
          · rw [(hp f).1]
          · rw [argsOf_congr args.toList argTypes.toList fun x hx' t => hx x (hmem x hx') t]
        · simp only [en]
          split
          · exact (hp f).2
          · exact ha
      have hk0 : opClassAt c ops ⟨dst, .call ⟨.value fo, args, argTypes⟩, type, pos, after, guard⟩ ≠ 0 := by
        cases fo <;> simp only [opClassAt, opClass] <;> first | omega | (split <;> omega)
      have hk2 : opClassAt c ops ⟨dst, .call ⟨.value fo, args, argTypes⟩, type, pos, after, guard⟩ ≠ 2 → ∃ g, fo = .func g ∧ c.still g = true := by
        intro h
        cases fo with
        | func g =>
          refine ⟨g, rfl, ?_⟩
          simp only [opClassAt] at h
          split at h
          · assumption
          · exact absurd rfl h
        | _ => exact absurd rfl h
      refine ⟨F, fun R icall S K => ?_, ⟨fun S v S' hf => ?_, fun L S S2 v S' hf ha hL ho => ?_⟩, LdOk.no rfl⟩
      · simp only [opK, callV, F]
        cases opd c S 0 fo with
        | clo fn first caps =>
          cases fn with
          | func f =>
            simp only
            cases first with
            | nil =>
              simp only [List.isEmpty_nil, if_true, passK_eq, ag, en]
              rw [enter_bind hinl, (passP_frame f args.toList 0 S argTypes.toList).2.2, Option.bind_assoc]
              rfl
            | cons y ys =>
              simp only [List.isEmpty_cons, Bool.false_eq_true, if_false, ag, en]
              rw [enter_bind hinl, Option.bind_assoc]
              rfl
          | _ => rfl
        | _ => rfl
      · simp only [F] at hf
        split at hf
        · rename_i f first caps _
          obtain ⟨p, h1, h2⟩ := Option.bind_eq_some_iff.1 hf
          cases h2
          have hfr := passP_frame (c := c) f args.toList 0 S argTypes.toList
          refine ⟨fun t ht => ?_, ?_, fun h => ?_⟩
          · simp only [en]
            split
            · exact hfr.1 t ht
            · rfl
          · simp only [en]
            split
            · exact hfr.2.1
            · rfl
          · obtain ⟨g, hg, hrg⟩ := hk2 h
            subst hg
            rename_i hclo
            simp only [opd, V.clo.injEq, Fn.func.injEq] at hclo
            obtain ⟨rfl, _, _⟩ := hclo
            exact callP_ro h1 hrg
        · cases hf
      · obtain ⟨h1, h2, h3⟩ := hcong L S S2 ha hL
        have hobj := ho hk0
        simp only [F] at hf ⊢
        rw [h1]
        split at hf
        · rename_i f first caps hg
          obtain ⟨p, h4, h5⟩ := Option.bind_eq_some_iff.1 hf
          cases h5
          refine ⟨⟨en S2 f first, p.2⟩, ?_, h3 f first, fun _ => rfl⟩
          simp only [hg, h2, hobj, h4]
          rfl
        · cases hf
  case makeMap t n =>
    refine .obj (fun S => match mapOf c t, n with | some (kd, vd), none => some (.mref S.objs.length, S.objs ++ [.mp kd vd []]) | _, _ => none) [] (by simp) rfl rfl (fun R icall S K => ?_) fun S S2 ho h => ?_
    · simp only [opK, newK_eq]
      cases mapOf c t with
      | none => cases n <;> rfl
      | some p => cases n <;> rfl
    · simp only [ho]
  case lookup t x i ok =>
    refine .look (fun S => match opd c S t x, mapOf c t, (opd c S 0 i).toSc with
      | .mref j, some (kd, vd), some k => match S.ob j with
        | .mp kd' vd' es => if kd == kd' && vd == vd' && k.kind == kd then some (if ok then .tup [mval vd k es, .bool (mhas k es)] else mval vd k es) else none
        | _ => none
      | _, _, _ => none) rfl (fun R icall S K => ?_) fun S S2 ho h => ?_
    · simp only [opK]
      generalize opd c S t x = X
      generalize mapOf c t = M
      generalize (opd c S 0 i).toSc = Q
      cases X with
      | mref j =>
        cases M with
        | none => rfl
        | some p =>
          cases Q with
          | none => rfl
          | some k =>
            simp only
            cases S.ob j with
            | mp a b es => simp only; split <;> rfl
            | _ => rfl
      | _ => rfl
    · simp only [h x (by simp [Op.operands]), h i (by simp [Op.operands]), St.ob_of ho]
  case mapUpdate t x i v =>
    refine .obj (fun S => match opd c S t x, mapOf c t, (opd c S 0 i).toSc, (opd c S 0 v).toSc with
      | .mref j, some (kd, vd), some k, some u => match S.ob j with
        | .mp kd' vd' es => if kd == kd' && vd == vd' && k.kind == kd && u.kind == vd then some (.bot, S.objs.set j (.mp kd vd (mput k u es))) else none
        | _ => none
      | _, _, _, _ => none) [] (by simp) rfl rfl (fun R icall S K => ?_) fun S S2 ho h => ?_
    · simp only [opK, setObK_eq]
      generalize opd c S t x = X
      generalize mapOf c t = M
      generalize (opd c S 0 i).toSc = Q
      generalize (opd c S 0 v).toSc = Q'
      cases X with
      | mref j =>
        cases M with
        | none => rfl
        | some p =>
          cases Q with
          | none => rfl
          | some k =>
            cases Q' with
            | none => rfl
            | some u =>
              simp only
              cases S.ob j with
              | mp a b es => simp only; split <;> rfl
              | _ => rfl
      | _ => rfl
    · simp only [h x (by simp [Op.operands]), h i (by simp [Op.operands]), h v (by simp [Op.operands]), St.ob_of ho, ho]
  case range t x =>
    refine .obj (fun S => match opd c S t x with | .str s => if isStr c t then some (.ref S.objs.length 0, S.objs ++ [.sit s 0]) else none | _ => none) [] (by simp) rfl rfl (fun R icall S K => ?_) fun S S2 ho h => ?_
    · simp only [opK, newK_eq]
      cases opd c S t x with
      | str s => simp only; split <;> rfl
      | _ => rfl
    · simp only [h x (by simp [Op.operands]), ho]
  case next it str =>
    refine .obj (fun S => match opd c S 0 it with
      | .ref i off => if str && off == 0 then (match S.ob i with
        | .sit s pos => if pos.toNat < s.length
          then some (.tup [.bool true, .int .i64 pos.toNat, .int .i32 (Utf8.decode ⟨s.toArray⟩ pos.toNat).1], S.objs.set i (.sit s ((pos.toNat + (Utf8.decode ⟨s.toArray⟩ pos.toNat).2 : Nat) : Int)))
          else some (.tup [.bool false], S.objs)
        | _ => none) else none
      | _ => none) [] (by simp) rfl rfl (fun R icall S K => ?_) fun S S2 ho h => ?_
    · simp only [opK, setObK_eq]
      cases opd c S 0 it with
      | ref i off =>
        simp only
        generalize (str && off == 0) = b
        cases b with
        | false => rfl
        | true =>
          simp only [if_true]
          cases S.ob i with
          | sit s pos => simp only; split <;> rfl
          | _ => rfl
      | _ => rfl
    · simp only [h it (by simp [Op.operands]), ho, St.ob_of ho]
  all_goals exact .none fun R icall S K => rfl
end
end Go.Ev
