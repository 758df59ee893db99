/- What an operation looks at, and what it turns: operations that stand apart may be swapped. -/
import Derived.Test.YtmhhcoccfojiiaaDoorEvM
namespace Go.Ev

section
variable {c : Cfg} {R : Type}

/-! The readings go on where they end. -/

theorem chk_bind (b : Bool) (x : Option V) (K : V → Option R) : chk b (x.bind K) = (chk b x).bind K := by cases b <;> rfl
theorem chk_K (b : Bool) (v : V) (K : V → Option R) : chk b (K v) = (chk b (some v)).bind K := by cases b <;> rfl
theorem intOp_bind (op : BinOp) (k : IntKind) (a b : Int) (K : V → Option R) : intOp op k a b K = (intOp op k a b some).bind K := by
  unfold intOp; cases op <;> first | rfl | exact chk_K _ _ _
theorem shiftOp_bind (op : BinOp) (k : IntKind) (a b : Int) (K : V → Option R) : shiftOp op k a b K = (shiftOp op k a b some).bind K := by
  unfold shiftOp; cases op <;> first | rfl | exact chk_K _ _ _
theorem strOp_bind (op : BinOp) (x y : List UInt8) (K : V → Option R) : strOp op x y K = (strOp op x y some).bind K := by
  unfold strOp; cases op <;> first | rfl | exact chk_K _ _ _
theorem binV_bind (op : BinOp) (t : TypeId) (x y : V) (K : V → Option R) : binV c op t x y K = (binV c op t x y some).bind K := by
  unfold binV
  split
  · split
    · exact shiftOp_bind _ _ _ _ _
    · exact shiftOp_bind _ _ _ _ _
    · split
      · exact intOp_bind _ _ _ _ _
      · rfl
  · exact strOp_bind _ _ _ _
  · split
    · split <;> rfl
    · split <;> rfl
    · rfl
theorem convV_bind (s d : TypeId) (x : V) (K : V → Option R) : convV c s d x K = (convV c s d x some).bind K := by
  unfold convV
  split
  · split <;> first | rfl | (split <;> rfl)
  · rfl
theorem sliceV_bind (x : V) (lo hi mx : Option V) (K : V → Option R) : sliceV x lo hi mx K = (sliceV x lo hi mx some).bind K := by
  unfold sliceV chk
  repeat' split
  all_goals first | rfl | skip
  all_goals dsimp only
  all_goals repeat' split
  all_goals rfl
theorem appendV_bind (st xt : TypeId) (s x : V) (K : V → Option R) : appendV c st xt s x K = (appendV c st xt s x some).bind K := by
  unfold appendV
  split
  · split
    · split
      · exact chk_K _ _ _
      · rfl
    · rfl
  · split
    · split
      · exact chk_K _ _ _
      · rfl
    · rfl
  · rfl

/-! What a slot gives up. -/

theorem cut1_of (v : V) (h : v.tip1 = false) : v.cut1 = v := by cases v <;> simp_all [V.cut1, V.tip1]
theorem map_of_any {g : V → V} {p : V → Bool} (hg : ∀ v, p v = false → g v = v) : ∀ cs : List V, cs.any p = false → cs.map g = cs
  | [], _ => rfl
  | v :: r, h => by
    simp only [List.any_cons, Bool.or_eq_false_iff] at h
    simp [hg v h.1, map_of_any hg r h.2]
theorem cut2_of (v : V) (h : v.tip2 = false) : v.cut2 = v := by
  cases v with
  | agg cs => simp only [V.tip2] at h; simp only [V.cut2, map_of_any cut1_of cs h]
  | lst e t xs => simp only [V.tip2] at h; exact cut1_of _ h
  | _ => rfl
theorem cut_of (v : V) (h : v.tips = false) : v.cut = v := by
  cases v with
  | tup cs => simp only [V.tips] at h; simp only [V.cut, map_of_any cut2_of cs h]
  | agg cs => simp only [V.tips] at h; exact cut2_of (.agg cs) h
  | lst e t xs => simp only [V.tips] at h; exact cut2_of (.lst e t xs) h
  | _ => rfl

def shedS (S : St) : Operand → St
  | .tmp s => ⟨S.env.set s (S.get s).cut, S.objs⟩
  | _ => S

theorem set_get (env : List V) (s : Nat) : env.set s (env.getD s .bot) = env := by
  apply List.ext_getElem?
  intro i
  by_cases h : s = i
  · subst h
    by_cases hs : s < env.length
    · rw [List.getElem?_set_self hs]; simp [List.getD, List.getElem?_eq_getElem hs]
    · rw [List.set_eq_of_length_le (Nat.le_of_not_lt hs)]
  · rw [List.getElem?_set_ne h]

theorem shedK_eq (S : St) (x : Operand) (K : St → Option R) : shedK S x K = K (shedS S x) := by
  cases x with
  | tmp s =>
    have same : (S.get s).tips = false → K S = K (shedS S (.tmp s)) := by
      intro h
      have : shedS S (.tmp s) = S := by
        simp only [shedS, cut_of _ h]
        simp only [St.get, set_get]
      rw [this]
    simp only [shedK]
    split
    · rename_i e xs hg
      rw [putK_eq]; simp only [shedS, hg, V.cut, V.cut2, V.cut1]
    · rename_i cs hg
      split
      · rw [putK_eq]; simp only [shedS, hg, V.cut, V.cut2]
      · rename_i h; exact same (by rw [hg]; simpa [V.tips, V.tip2] using h)
    · rename_i cs hg
      split
      · rw [putK_eq]; simp only [shedS, hg, V.cut]
      · rename_i h; exact same (by rw [hg]; simpa [V.tips] using h)
    · rename_i h1 h2 h3
      refine same ?_
      generalize S.get s = v at h1 h2 h3
      cases v with
      | lst e t xs => cases t with
        | true => exact absurd rfl (h1 _ _)
        | false => rfl
      | agg cs => exact absurd rfl (h2 _)
      | tup cs => exact absurd rfl (h3 _)
      | _ => rfl
  | _ => rfl

/-! Agreement. -/

def Agr (L : List Nat) (S S2 : St) : Prop := S2.env.length = S.env.length ∧ ∀ t ∈ L, S2.env[t]? = S.env[t]?

theorem Agr.get {L : List Nat} {S S2 : St} (h : Agr L S S2) {t : Nat} (ht : t ∈ L) : S2.get t = S.get t := by
  simp only [St.get, List.getD, h.2 t ht]
theorem Agr.opd {L : List Nat} {S S2 : St} (h : Agr L S S2) {x : Operand} (hx : ∀ t, x = .tmp t → t ∈ L) (ty : TypeId) : opd c S2 ty x = opd c S ty x := by
  cases x with
  | tmp s => exact h.get (hx s rfl)
  | _ => rfl
theorem Agr.shed {L : List Nat} {S S2 : St} (h : Agr L S S2) {x : Operand} (hx : ∀ t, x = .tmp t → t ∈ L) : Agr L (shedS S x) (shedS S2 x) := by
  cases x with
  | tmp s =>
    refine ⟨by simp [shedS, h.1], fun t ht => ?_⟩
    simp only [shedS, h.get (hx s rfl), List.getElem?_set, h.1]
    by_cases hst : s = t
    · simp [hst]
    · simp [hst, h.2 t ht]
  | _ => exact h
theorem shedS_objs (S : St) (x : Operand) : (shedS S x).objs = S.objs := by cases x <;> rfl
theorem shedS_len (S : St) (x : Operand) : (shedS S x).env.length = S.env.length := by cases x <;> simp [shedS]
theorem shedS_out (S : St) (x : Operand) (t : Nat) (h : x ≠ .tmp t) : (shedS S x).env[t]? = S.env[t]? := by
  cases x with
  | tmp s =>
    simp only [shedS]
    rw [List.getElem?_set_ne (fun e => h (by rw [e]))]
  | _ => rfl

/-- A reading that looks at some slots, turns some, and looks at objects (1) or turns them (2). -/
structure Loc (F : St → Option (V × St)) (looks writes : List Nat) (k : Nat) : Prop where
  frame : ∀ S v S', F S = some (v, S') → (∀ t, t ∉ writes → S'.env[t]? = S.env[t]?) ∧ S'.env.length = S.env.length ∧ (k ≠ 2 → S'.objs = S.objs)
  dep : ∀ L S S2 v S', F S = some (v, S') → Agr L S S2 → (∀ t ∈ looks, t ∈ L) → (k ≠ 0 → S2.objs = S.objs) → ∃ S2', F S2 = some (v, S2') ∧ Agr L S' S2' ∧ (k = 2 → S2'.objs = S'.objs)

theorem Loc.mono {F : St → Option (V × St)} {l w : List Nat} {k : Nat} (h : Loc F l w k) {l' w' : List Nat} {k' : Nat} (hl : ∀ t ∈ l, t ∈ l') (hw : ∀ t ∈ w, t ∈ w') (hk : k' = k ∨ k = 0 ∨ k' = 2) : Loc F l' w' k' := by
  refine ⟨fun S v S' hf => ?_, fun L S S2 v S' hf ha hL ho => ?_⟩
  · obtain ⟨h1, h2, h3⟩ := h.frame S v S' hf
    refine ⟨fun t ht => h1 t fun hm => ht (hw t hm), h2, fun hne => ?_⟩
    rcases hk with rfl | rfl | rfl
    · exact h3 hne
    · exact h3 (by omega)
    · exact absurd rfl hne
  · rcases hk with rfl | rfl | rfl
    · exact h.dep L S S2 v S' hf ha (fun t ht => hL t (hl t ht)) ho
    · obtain ⟨S2', h1, h2, h3⟩ := h.dep L S S2 v S' hf ha (fun t ht => hL t (hl t ht)) (fun h => absurd rfl h)
      refine ⟨S2', h1, h2, fun hk2 => ?_⟩
      have e1 := (h.frame S v S' hf).2.2 (by omega)
      have e2 := (h.frame S2 v S2' h1).2.2 (by omega)
      rw [e1, e2]; exact ho (by omega)
    · have hobj := ho (by omega)
      obtain ⟨S2', h1, h2, h3⟩ := h.dep L S S2 v S' hf ha (fun t ht => hL t (hl t ht)) (fun _ => hobj)
      refine ⟨S2', h1, h2, fun _ => ?_⟩
      by_cases hk2 : k = 2
      · exact h3 hk2
      · rw [(h.frame S v S' hf).2.2 hk2, (h.frame S2 v S2' h1).2.2 hk2, hobj]

/-- A value is computed from operands: nothing is turned. -/
theorem Loc.val {f : St → Option V} {looks : List Nat} (h : ∀ S S2, Agr looks S S2 → f S2 = f S) : Loc (fun S => (f S).bind fun v => some (v, S)) looks [] 0 := by
  refine ⟨fun S v S' hf => ?_, fun L S S2 v S' hf ha hL _ => ?_⟩
  · obtain ⟨u, _, h2⟩ := Option.bind_eq_some_iff.1 hf
    cases h2
    exact ⟨fun _ _ => rfl, rfl, fun _ => rfl⟩
  · obtain ⟨u, h1, h2⟩ := Option.bind_eq_some_iff.1 hf
    cases h2
    refine ⟨S2, ?_, ha, fun h => by omega⟩
    simp only [h S S2 ⟨ha.1, fun t ht => ha.2 t (hL t ht)⟩, h1]
    rfl
/-- The same, and operands are shed. -/
theorem Loc.valShed {f : St → Option V} {looks : List Nat} (h : ∀ S S2, Agr looks S S2 → f S2 = f S) (x : Operand) (hx : ∀ t, x = .tmp t → t ∈ looks) :
    Loc (fun S => (f S).bind fun v => some (v, shedS S x)) looks (tmpsOf [x]) 0 := by
  refine ⟨fun S v S' hf => ?_, fun L S S2 v S' hf ha hL _ => ?_⟩
  · obtain ⟨u, _, h2⟩ := Option.bind_eq_some_iff.1 hf
    cases h2
    exact ⟨fun t ht => shedS_out S x t (by rintro rfl; simp [tmpsOf] at ht), shedS_len S x, fun _ => shedS_objs S x⟩
  · obtain ⟨u, h1, h2⟩ := Option.bind_eq_some_iff.1 hf
    cases h2
    refine ⟨shedS S2 x, ?_, ha.shed (fun t ht => hL t (hx t ht)), fun h => by omega⟩
    simp only [h S S2 ⟨ha.1, fun t ht => ha.2 t (hL t ht)⟩, h1]
    rfl
/-- The same, and objects are turned. -/
theorem Loc.obj {f : St → Option (V × List Ob)} {looks : List Nat} (h : ∀ S S2, Agr looks S S2 → S2.objs = S.objs → f S2 = f S) (xs : List Operand) (hx : ∀ x ∈ xs, ∀ t, x = .tmp t → t ∈ looks) :
    Loc (fun S => (f S).bind fun p => some (p.1, ⟨(xs.foldl shedS S).env, p.2⟩)) looks (tmpsOf xs) 2 := by
  have hout : ∀ (xs : List Operand) (S : St), (∀ t, t ∉ tmpsOf xs → (xs.foldl shedS S).env[t]? = S.env[t]?) ∧ (xs.foldl shedS S).env.length = S.env.length := by
    intro xs
    induction xs with
    | nil => intro S; exact ⟨fun _ _ => rfl, rfl⟩
    | cons x xs ih =>
      intro S
      obtain ⟨h1, h2⟩ := ih (shedS S x)
      refine ⟨fun t ht => ?_, h2.trans (shedS_len S x)⟩
      have ht' : t ∉ tmpsOf xs ∧ x ≠ .tmp t := by
        constructor
        · intro h; apply ht; simp only [tmpsOf, List.mem_filterMap] at h ⊢; obtain ⟨y, h1, h2⟩ := h; exact ⟨y, by simp [h1], h2⟩
        · rintro rfl; apply ht; simp [tmpsOf]
      rw [List.foldl_cons, h1 t ht'.1, shedS_out S x t ht'.2]
  have hagr : ∀ (xs : List Operand) (L : List Nat) (S S2 : St), (∀ x ∈ xs, ∀ t, x = .tmp t → t ∈ L) → Agr L S S2 → Agr L (xs.foldl shedS S) (xs.foldl shedS S2) := by
    intro xs
    induction xs with
    | nil => intro L S S2 _ h; exact h
    | cons x xs ih => intro L S S2 hx h; exact ih L _ _ (fun y hy => hx y (by simp [hy])) (h.shed (hx x (by simp)))
  refine ⟨fun S v S' hf => ?_, fun L S S2 v S' hf ha hL ho => ?_⟩
  · obtain ⟨u, _, h2⟩ := Option.bind_eq_some_iff.1 hf
    cases h2
    exact ⟨(hout xs S).1, (hout xs S).2, fun h => absurd rfl h⟩
  · obtain ⟨u, h1, h2⟩ := Option.bind_eq_some_iff.1 hf
    cases h2
    refine ⟨⟨(xs.foldl shedS S2).env, u.2⟩, ?_, hagr xs L S S2 (fun x hx' t ht => hL t (hx x hx' t ht)) ha, fun _ => rfl⟩
    simp only [h S S2 ⟨ha.1, fun t ht => ha.2 t (hL t ht)⟩ (ho (by omega)), h1]
    rfl
/-- Objects are looked at. -/
theorem Loc.look {f : St → Option V} {looks : List Nat} (h : ∀ S S2, Agr looks S S2 → S2.objs = S.objs → f S2 = f S) : Loc (fun S => (f S).bind fun v => some (v, S)) looks [] 1 := by
  refine ⟨fun S v S' hf => ?_, fun L S S2 v S' hf ha hL ho => ?_⟩
  · obtain ⟨u, _, h2⟩ := Option.bind_eq_some_iff.1 hf
    cases h2
    exact ⟨fun _ _ => rfl, rfl, fun _ => rfl⟩
  · obtain ⟨u, h1, h2⟩ := Option.bind_eq_some_iff.1 hf
    cases h2
    refine ⟨S2, ?_, ha, fun h => by omega⟩
    simp only [h S S2 ⟨ha.1, fun t ht => ha.2 t (hL t ht)⟩ (ho (by omega)), h1]
    rfl

/-! Objects but for the right to append. -/
def softO : Ob → Ob | .cells cs => .cells (cs.map V.cut1) | o => o
def softL (l : List Ob) : List Ob := l.map softO
theorem cut1_cut1 (v : V) : v.cut1.cut1 = v.cut1 := by cases v <;> rfl
theorem cut_cut1 (v : V) : v.cut1.cut = v.cut := by cases v <;> rfl
theorem cutAt_soft : ∀ (o n : Nat) (cs : List V), (cutAt o n cs).map V.cut1 = cs.map V.cut1
  | 0, 0, [] => rfl
  | 0, 0, _ :: _ => rfl
  | 0, n + 1, [] => rfl
  | 0, n + 1, x :: cs => by simp only [cutAt, List.map_cons, cut1_cut1, cutAt_soft 0 n cs]
  | o + 1, n, [] => rfl
  | o + 1, n, x :: cs => by simp only [cutAt, List.map_cons, cutAt_soft o n cs]
theorem partV_soft (t : TypeId) (off : Nat) {cs cs' : List V} (h : cs.map V.cut1 = cs'.map V.cut1) : (partV c t off cs).map V.cut = (partV c t off cs').map V.cut := by
  have hl : cs.length = cs'.length := by simpa using congrArg List.length h
  have hd : ((cs.drop off).take (tySize c t)).map V.cut1 = ((cs'.drop off).take (tySize c t)).map V.cut1 := by
    rw [List.map_take, List.map_drop, h, ← List.map_drop, ← List.map_take]
  unfold partV
  rw [hl]
  split
  · generalize (cs.drop off).take (tySize c t) = a at hd ⊢
    generalize (cs'.drop off).take (tySize c t) = b at hd ⊢
    unfold ofCells
    split
    · simp only [Option.map_some, V.cut, V.cut2, hd]
    · match a, b, hd with
      | [], [], _ => rfl
      | [x], [y], hd =>
        simp only [List.map_cons, List.map_nil, List.cons.injEq, and_true] at hd
        simp only [Option.map_some, ← cut_cut1 x, ← cut_cut1 y, hd]
      | _ :: _ :: _, _ :: _ :: _, _ => rfl
      | [], _ :: _, hd => simp at hd
      | _ :: _, [], hd => simp at hd
      | [_], _ :: _ :: _, hd => simp at hd
      | _ :: _ :: _, [_], hd => simp at hd
  · rfl
theorem softL_at {l l' : List Ob} (h : softL l = softL l') (i : Nat) : softO (l.getD i .dead) = softO (l'.getD i .dead) := by
  have e : ∀ l : List Ob, softO (l.getD i .dead) = (softL l).getD i .dead := by
    intro l
    simp only [softL, List.getD, List.getElem?_map]
    cases l[i]? <;> rfl
  rw [e, e, h]
theorem loadV_soft (t : TypeId) (p : V) {S S2 : St} (h : softL S2.objs = softL S.objs) : (loadV c S2 t p).map V.cut = (loadV c S t p).map V.cut := by
  unfold loadV
  cases p with
  | ref i off =>
    have := softL_at h i
    simp only [St.ob]
    generalize S2.objs.getD i .dead = a at this ⊢
    generalize S.objs.getD i .dead = b at this ⊢
    cases a <;> cases b <;> simp [softO] at this
    · exact partV_soft t off (by simpa using this)
    · rfl
    · rfl
    · rfl
  | cpt cs => rfl
  | _ => rfl
theorem softL_set {l : List Ob} {i : Nat} {o o' : Ob} (h : l[i]? = some o) (hs : softO o' = softO o) : softL (l.set i o') = softL l := by
  unfold softL
  apply List.ext_getElem?
  intro j
  rw [List.getElem?_map, List.getElem?_map]
  by_cases e : i = j
  · subst e
    rw [List.getElem?_set_self (List.getElem?_eq_some_iff.1 h).1, h]
    simp [hs]
  · rw [List.getElem?_set_ne e]
end
end Go.Ev
