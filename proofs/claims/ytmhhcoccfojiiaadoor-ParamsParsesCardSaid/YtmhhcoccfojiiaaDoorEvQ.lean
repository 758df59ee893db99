/- Regions: what the plain reading says of one, the model does, in whatever order it runs. -/
import Derived.Test.YtmhhcoccfojiiaaDoorEvP
namespace Go.Ev

section
variable {c : Cfg} {E : Ent} {R : Type}

def Post (c : Cfg) (E : Ent) (K : St → Option R) (r : R) (d : List Deferred) (a : Act) (w : World) : Prop :=
  ∃ S G μ, K S = some r ∧ Sim c E w G μ S.env a.tmps.toList S.objs ∧ a.defers = d

theorem put_toList (a : Act) (d : Option Tmp) (u : Value) : (a.put d u).tmps.toList = (match d with | some d => a.tmps.toList.set d u | none => a.tmps.toList) ∧ (a.put d u).defers = a.defers := by
  cases d <;> simp [Act.put]

theorem post_of_went {K : St → Option R} {r : R} {a : Act} {u : Value} {w : World} {dst : Option Tmp} (h : Went c E (fun v S' => K (putS S' dst v)) r a.tmps.toList u w) : Post c E K r a.defers (a.put dst u) w := by
  obtain ⟨v, S', G', μ', hk, hs⟩ := h
  refine ⟨putS S' dst v, G', μ', hk, ?_, (put_toList a dst u).2⟩
  rw [(put_toList a dst u).1]
  cases dst with
  | none => exact hs.pop
  | some d => exact hs.put d

theorem opK_all (hc : CfgOk c) {call : FuncId → Fun} (hcall : ∀ f, FunOk c f (call f)) {icall : ICall R} {ops : List Oper} {o : Oper} {S : St} {a : Act} {K : V → St → Option R} {r : R} {w : World} {G : Gh} {μ : List Nat}
    (h : opK c call icall ops o S K = some r) (hS : SimS c E w G μ S a) : OpOk c E o a w K r := by
  by_cases hcl : ∃ cl, o.op = .call cl
  · obtain ⟨cl, hcl⟩ := hcl
    refine callV_ok hc hcall (icall := icall) hcl (S := S) ?_ hS
    unfold opK at h
    simpa only [hcl] using h
  · exact opK_ok hc h (fun cl hcl' => hcl ⟨cl, hcl'⟩) hS

theorem step_ok (hc : CfgOk c) {call : FuncId → Fun} (hcall : ∀ f, FunOk c f (call f)) {icall : ICall R} {ops : Array Oper} {Q : Exit → Act → World → Prop} {i : Nat} {o : Oper} (ho : ops[i]? = some o) {S : St} {a : Act} {K : St → Option R} {r : R} {w : World} {G : Gh} {μ : List Nat}
    (h : stepK c call icall ops.toList o S K = some r) (hS : SimS c E w G μ S a) : wpOp c.P ops Q i (Post c E K r a.defers) a w := by
  have runs : opK c call icall ops.toList o S (fun v S' => K (putS S' o.dst v)) = some r → o.wp c.P a w (Post c E K r a.defers) Q := by
    intro h
    have hop := opK_all hc hcall h hS
    unfold Oper.wp
    rcases hop with ⟨u, w', hr, hw⟩ | ⟨w', hr, hw⟩ | ⟨f, args, hr, hcalls⟩
    · rw [hr]; exact post_of_went hw
    · rw [hr]; exact post_of_went hw
    · rw [hr]
      refine Calls.mono hcalls ?_
      rintro e w' ⟨u, rfl, hw⟩
      exact post_of_went hw
  unfold wpOp
  rw [ho]
  simp only
  unfold stepK at h
  cases hg : o.guard with
  | none =>
    simp only [hg] at h
    rw [if_pos (by simp [Region.wanted, hg])]
    exact .inl (runs h)
  | some p =>
    obtain ⟨j, want⟩ := p
    simp only [hg] at h
    split at h
    · cases h
    · rename_i t ht
      split at h
      · rename_i b hb
        have hy : yielded ops a.tmps j = some b := by
          have hr := opd_rep hS 0 (.tmp t)
          have h1 : opd c S 0 (.tmp t) = .bool b := hb
          have h2 := bool_of hr h1
          have h3 : (ops[j]?).bind (·.dst) = some t := by simpa [guardSlot] using ht
          have hlt : t < a.tmps.size := by
            apply Classical.byContradiction
            intro hn
            simp only [Act.eval, Array.getD_eq_getD_getElem?] at h2
            rw [Array.getElem?_eq_none (Nat.le_of_not_lt hn)] at h2
            cases h2
          have h4 : a.tmps[t]? = some (.bool b) := by
            simp only [Act.eval, Array.getD_eq_getD_getElem?] at h2
            rw [Array.getElem?_eq_getElem hlt] at h2 ⊢
            simp at h2
            rw [h2]
          simp [yielded, h3, h4]
        have hw : Region.wanted o (yielded ops a.tmps) = (b == want) := by
          simp only [Region.wanted, hg, hy]
          cases b <;> cases want <;> rfl
        rw [hw]
        split at h
        · rename_i hbw
          rw [if_pos (by simp [hbw])]
          exact .inl (runs h)
        · rename_i hbw
          rw [if_neg (by simpa using hbw)]
          exact post_of_went ⟨skipV, S, G, μ, h, hS.push (.raw _) rfl⟩
      · rename_i hb
        have hy : yielded ops a.tmps j = none := by
          have hr := opd_rep hS 0 (.tmp t)
          have h1 : opd c S 0 (.tmp t) = .raw (.tuple ⟨[]⟩) := hb
          rw [h1] at hr
          have h2 : a.eval (.tmp t) = .tuple ⟨[]⟩ := by
            generalize a.eval (.tmp t) = z at hr
            cases hr; rfl
          have h3 : (ops[j]?).bind (·.dst) = some t := by simpa [guardSlot] using ht
          simp only [yielded, h3, Option.bind_some]
          simp only [Act.eval, Array.getD_eq_getD_getElem?] at h2
          cases he : a.tmps[t]? with
          | none => rfl
          | some z => rw [he] at h2; simp at h2; subst h2; rfl
        have hw : Region.wanted o (yielded ops a.tmps) = false := by
          simp only [Region.wanted, hg, hy]
          rfl
        rw [hw]
        rw [if_neg (by decide)]
        exact post_of_went ⟨skipV, S, G, μ, h, hS.push (.raw _) rfl⟩
      · cases h

/-! The orders. -/

theorem fold_bits (acc : List Nat) (i : Nat) : ∀ (es : List Edge) (s0 : Nat), (es.foldl (fun s e => if Region.binds .any e then s ||| (1 <<< e.on) ||| acc.getD e.on 0 else s) s0).testBit i = true →
    s0.testBit i = true ∨ ∃ e ∈ es, Region.binds .any e = true ∧ (e.on = i ∨ (acc.getD e.on 0).testBit i = true)
  | [], s0, h => .inl h
  | e :: es, s0, h => by
    rw [List.foldl_cons] at h
    rcases fold_bits acc i es _ h with h | ⟨e', h1, h2⟩
    · split at h
      · rename_i hb
        rw [Nat.testBit_or, Nat.testBit_or, Bool.or_eq_true, Bool.or_eq_true] at h
        rcases h with (h | h) | h
        · exact .inl h
        · refine .inr ⟨e, by simp, hb, .inl ?_⟩
          rw [Nat.shiftLeft_eq, Nat.one_mul, Nat.testBit_two_pow] at h
          simpa using h
        · exact .inr ⟨e, by simp, hb, .inr h⟩
      · exact .inl h
    · exact .inr ⟨e', by simp [h1], h2⟩

theorem ahead_prefix : ∀ (l : List Oper) (acc : List Nat) (m : Nat), m < acc.length → (ahead l acc).getD m 0 = acc.getD m 0
  | [], _, _, _ => rfl
  | o :: r, acc, m, h => by
    simp only [ahead]
    rw [ahead_prefix r _ m (by simp; omega)]
    simp [List.getD, List.getElem?_append_left h]

theorem ahead_spec : ∀ (l : List Oper) (acc : List Nat) (i k : Nat) (o : Oper), l[k]? = some o → ((ahead l acc).getD (acc.length + k) 0).testBit i = true →
    ∃ e ∈ o.after.toList, Region.binds .any e = true ∧ (e.on = i ∨ ((ahead l acc).getD e.on 0).testBit i = true)
  | [], _, _, _, _, h, _ => by simp at h
  | o' :: r, acc, i, 0, o, h, hb => by
    simp at h; subst h
    simp only [ahead] at hb ⊢
    rw [ahead_prefix r _ _ (by simp)] at hb
    simp only [List.getD, Nat.add_zero, List.getElem?_concat_length, Option.getD_some] at hb
    rcases fold_bits acc i _ _ hb with h | ⟨e, h1, h2, h3⟩
    · simp at h
    · refine ⟨e, h1, h2, h3.imp id fun h => ?_⟩
      by_cases hl : e.on < acc.length
      · rw [ahead_prefix r (acc ++ [_]) e.on (by rw [List.length_append]; omega)]
        simpa [List.getD, List.getElem?_append_left hl] using h
      · simp [List.getD, List.getElem?_eq_none (Nat.le_of_not_lt hl)] at h
  | o' :: r, acc, i, k + 1, o, h, hb => by
    simp only [ahead] at hb ⊢
    exact ahead_spec r _ i k o (by simpa using h) (by simpa [Nat.add_assoc, Nat.add_comm 1 k] using hb)

theorem swapsAll_spec (ops : List Oper) (b : List Nat) (j : Nat) (y : Oper) : ∀ (l : List Oper) (i0 : Nat), swapsAll c ops b j y i0 l = true → ∀ (k : Nat) x, l[k]? = some x → i0 + k < j → (b.getD j 0).testBit (i0 + k) = false → swaps c ops x y = true
  | [], _, _, k, x, h, _, _ => by simp at h
  | a :: r, i0, h, 0, x, hx, hlt, hb => by
    simp at hx; subst hx
    simp only [swapsAll, Bool.and_eq_true, Nat.add_zero] at h hlt hb
    have := h.1
    rw [if_pos hlt, hb] at this
    simpa using this
  | a :: r, i0, h, k + 1, x, hx, hlt, hb => by
    simp only [swapsAll, Bool.and_eq_true] at h
    exact swapsAll_spec ops b j y r (i0 + 1) h.2 k x (by simpa using hx) (by omega) (by rw [← hb]; congr 1; omega)

theorem orderFree_spec {ops : List Oper} (h : orderFree c ops = true) : (∀ (j : Nat) y, ops[j]? = some y → (∀ e ∈ y.after.toList, Region.binds .any e = true → e.on < j) ∧
    ∀ (i : Nat) x, ops[i]? = some x → i < j → ((ahead ops []).getD j 0).testBit i = false → swaps c ops x y = true) := by
  have key : ∀ (l : List Oper) (j0 : Nat), orderFree.go c ops (ahead ops []) j0 l = true → ∀ (k : Nat) y, l[k]? = some y → (y.after.toList.all fun e => !Region.binds .any e || decide (e.on < j0 + k)) = true ∧ swapsAll c ops (ahead ops []) (j0 + k) y 0 ops = true := by
    intro l
    induction l with
    | nil => intro j0 _ k y hy; simp at hy
    | cons a r ih =>
      intro j0 h k y hy
      simp only [orderFree.go, Bool.and_eq_true] at h
      cases k with
      | zero =>
        simp at hy; subst hy
        exact ⟨by simpa using h.1.1, by simpa using h.1.2⟩
      | succ k =>
        have := ih (j0 + 1) h.2 k y (by simpa using hy)
        rw [show j0 + (k + 1) = j0 + 1 + k by omega]
        exact this
  intro j y hy
  obtain ⟨h1, h2⟩ := key ops 0 h j y hy
  rw [Nat.zero_add] at h1 h2
  refine ⟨fun e he hb => ?_, fun i x hx hlt hb => ?_⟩
  · rw [List.all_eq_true] at h1
    have := h1 e he
    simpa [hb] using this
  · exact swapsAll_spec ops _ j y ops 0 h2 i x hx (by omega) (by simpa using hb)
end
end Go.Ev
