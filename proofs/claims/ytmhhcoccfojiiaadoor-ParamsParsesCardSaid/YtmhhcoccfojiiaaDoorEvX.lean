/- Functions that leave all objects as they are. -/
import Derived.Test.YtmhhcoccfojiiaaDoorEvT
namespace Go.Ev

section
variable {c : Cfg} {R : Type}

/-- What stood in front stands there. -/
def Pre (n : Nat) (S S' : St) : Prop := n ≤ S.objs.length → n ≤ S'.objs.length ∧ S'.objs.take n = S.objs.take n

theorem Pre.of_eq {n : Nat} {S S' : St} (h : S'.objs = S.objs) : Pre n S S' := fun hn => ⟨by rw [h]; exact hn, by rw [h]⟩
theorem Pre.trans {n : Nat} {S S' S'' : St} (h : Pre n S S') (k : Pre n S' S'') : Pre n S S'' := fun hn => by
  obtain ⟨h1, h2⟩ := h hn
  obtain ⟨k1, k2⟩ := k h1
  exact ⟨k1, k2.trans h2⟩
theorem Pre.of_append {n : Nat} {S S' : St} {l : List Ob} (h : S'.objs = S.objs ++ l) : Pre n S S' := fun hn => by
  rw [h]
  exact ⟨by simp; omega, by rw [List.take_append_of_le_length hn]⟩

theorem opK_pre (hinl : ∀ f, c.inl f = false) (n : Nat) {call : FuncId → Fun} {icall : ICall R} {ops : List Oper} {o : Oper} {S : St} {K : V → St → Option R} {r : R}
    (hro : roOp c ops o = true) (h : opK c call icall ops o S K = some r) : ∃ v S', K v S' = some r ∧ Pre n S S' := by
  by_cases hk : opClassAt c ops o = 2
  · obtain ⟨dst, op, type, pos, after, guard⟩ := o
    cases op
    case alloc t =>
      simp only [opK, newK_eq] at h
      split at h
      · exact ⟨_, _, h, Pre.of_append rfl⟩
      · cases h
    case box t x =>
      simp only [opK, shedK_eq, newK_eq, shedS_objs] at h
      split at h
      · exact ⟨_, _, h, Pre.of_append rfl⟩
      · cases h
    case makeMap t n =>
      simp only [opK, newK_eq] at h
      split at h
      · exact ⟨_, _, h, Pre.of_append rfl⟩
      · cases h
    case mapUpdate => simp [roOp] at hro
    case range t x =>
      simp only [opK, newK_eq] at h
      split at h
      · split at h
        · exact ⟨_, _, h, Pre.of_append rfl⟩
        · cases h
      · cases h
    case store => simp [roOp] at hro
    case next => simp [roOp] at hro
    case load => simp only [roOp, Bool.not_eq_true'] at hro; simp [opClassAt, hro] at hk
    case call cl =>
      obtain ⟨callee, args, at'⟩ := cl
      cases callee with
      | value fo => cases fo <;> simp [roOp] at hro; simp [opClassAt, hro] at hk
      | builtin b => cases b <;> first | (simp [opClassAt, opClass] at hk; done) | (simp [opK, callV] at h; done)
      | invoke => simp [opK, callV] at h
    all_goals first | (simp [opClassAt, opClass] at hk; done) | (simp [opK] at h; done)
  · obtain ⟨F, hF, hloc, _⟩ := opF_ex hinl call ops o
    rw [hF] at h
    obtain ⟨⟨v, S'⟩, h1, h2⟩ := Option.bind_eq_some_iff.1 h
    exact ⟨v, S', h2, Pre.of_eq ((hloc.frame S v S' h1).2.2 hk)⟩

theorem putS_pre (n : Nat) (S : St) (d : Option Tmp) (v : V) : Pre n S (putS S d v) := Pre.of_eq (putS_env S d v).2.1

theorem opsK_pre (hinl : ∀ f, c.inl f = false) (n : Nat) {call : FuncId → Fun} {icall : ICall R} {ops : List Oper} {K : St → Option R} {r : R} : ∀ (l : List Oper) (S : St), (∀ o ∈ l, roOp c ops o = true) →
    opsK c call icall ops l S K = some r → ∃ S', K S' = some r ∧ Pre n S S'
  | [], S, _, h => ⟨S, h, Pre.of_eq rfl⟩
  | o :: l, S, hro, h => by
    have step : ∃ S', opsK c call icall ops l S' K = some r ∧ Pre n S S' := by
      rw [opsK_cons] at h
      unfold stepK at h
      split at h
      · obtain ⟨v, S', h1, h2⟩ := opK_pre hinl n (hro o (by simp)) h
        exact ⟨_, h1, h2.trans (putS_pre n S' o.dst v)⟩
      · split at h
        · cases h
        · split at h
          · split at h
            · obtain ⟨v, S', h1, h2⟩ := opK_pre hinl n (hro o (by simp)) h
              exact ⟨_, h1, h2.trans (putS_pre n S' o.dst v)⟩
            · exact ⟨_, h, putS_pre n S o.dst skipV⟩
          · exact ⟨_, h, putS_pre n S o.dst skipV⟩
          · cases h
    obtain ⟨S1, h1, h2⟩ := step
    obtain ⟨S', h3, h4⟩ := opsK_pre hinl n l S1 (fun o ho => hro o (by simp [ho])) h1
    exact ⟨S', h3, h2.trans h4⟩

theorem forgetK_pre {K : St → Option R} {r : R} : ∀ (l : List Nat) (S : St), forgetK S l K = some r → ∃ S', K S' = some r ∧ S'.objs = S.objs
  | [], S, h => ⟨S, h, rfl⟩
  | t :: l, S, h => by
    simp only [forgetK, putK_eq] at h
    obtain ⟨S', h1, h2⟩ := forgetK_pre l ⟨S.env.set t .bot, S.objs⟩ h
    exact ⟨S', h1, h2⟩

theorem normK_pre {S : St} {live : List Nat} {base n : Nat} (hn : n ≤ base) {K : St → Option R} {r : R} (h : S.normK live base K = some r) : ∃ S', K S' = some r ∧ Pre n S S' := by
  obtain ⟨env, objs⟩ := S
  unfold St.normK at h
  simp only [keepLK_eq, takeK_eq] at h
  have key : ∀ (l : List Nat) (n : Nat), n ≤ maxRef l n := by
    intro l
    induction l with
    | nil => intro n; exact Nat.le_refl _
    | cons i l ih => intro n; exact Nat.le_trans (Nat.le_max_left _ _) (ih (max n (i + 1)))
  split at h
  · refine ⟨_, h, fun hl => ?_⟩
    simp only at hl ⊢
    have := key (reach objs 100 (V.refsL (keepL live 0 env) ++ List.range base) []) base
    refine ⟨by rw [List.length_take]; omega, by rw [List.take_take]; congr 1; omega⟩
  · exact ⟨_, h, Pre.of_eq rfl⟩

theorem roIt_exit (id : Nat) : ∀ (k k' : List It), exitIt id k = some k' → (∀ x ∈ k, roIt c x = true) → ∀ x ∈ k', roIt c x = true
  | [], _, h, _ => by cases h
  | .inBlock i :: k, k', h, hk => by
    simp only [exitIt] at h
    split at h
    · cases h; exact fun x hx => hk x (by simp [hx])
    · exact roIt_exit id k k' h fun x hx => hk x (by simp [hx])
  | .code x :: k, k', h, hk => roIt_exit id k k' (by simpa [exitIt] using h) fun y hy => hk y (by simp [hy])
  | .inLoop x :: k, k', h, hk => roIt_exit id k k' (by simpa [exitIt] using h) fun y hy => hk y (by simp [hy])
  | .inScope x :: k, k', h, hk => roIt_exit id k k' (by simpa [exitIt] using h) fun y hy => hk y (by simp [hy])

theorem runM_pre (hinl : ∀ f, c.inl f = false) {n : Nat} {call : FuncId → Fun} {icall : ICall R} {rs : List Nat} {base : Nat} (hn : n ≤ base) {again : List It → St → Option R} {fin : St → Option R} {r : R}
    (hagain : ∀ td S, (∀ x ∈ td, roIt c x = true) → again td S = some r → ∃ S', fin S' = some r ∧ Pre n S S') :
    ∀ (m : Nat) (td : List It) (S : St), (∀ x ∈ td, roIt c x = true) → runM c call icall rs base again fin m td S = some r → ∃ S', fin S' = some r ∧ Pre n S S' := by
  intro m
  induction m with
  | zero => intro td S _ h; simp [runM] at h
  | succ m ih =>
    intro td S hro h
    have go : ∀ (td : List It) (S1 : St), (∀ x ∈ td, roIt c x = true) → runM c call icall rs base again fin m td S1 = some r → Pre n S S1 → ∃ S', fin S' = some r ∧ Pre n S S' := fun td S1 h1 h2 h3 => by
      obtain ⟨S', g1, g2⟩ := ih td S1 h1 h2
      exact ⟨S', g1, h3.trans g2⟩
    cases td with
    | nil => exact ⟨S, by simpa [runM] using h, Pre.of_eq rfl⟩
    | cons it k =>
      have hk : ∀ x ∈ k, roIt c x = true := fun x hx => hro x (by simp [hx])
      have h0 := hro it (by simp)
      have loop : ∀ x, roCode c x = true → S.normK (liveT rs (.inLoop x :: k)).n base (fun S => again (.code x :: .inLoop x :: k) S) = some r → ∃ S', fin S' = some r ∧ Pre n S S' := by
        intro x hx h
        obtain ⟨S1, h1, h2⟩ := normK_pre hn h
        obtain ⟨S', g1, g2⟩ := hagain _ S1 (fun y hy => by
          simp only [List.mem_cons] at hy
          rcases hy with rfl | rfl | hy
          · exact hx
          · exact hx
          · exact hk y hy) h1
        exact ⟨S', g1, h2.trans g2⟩
      have two : ∀ x y : It, roIt c x = true → roIt c y = true → ∀ z ∈ x :: y :: k, roIt c z = true := fun x y hx hy z hz => by
        simp only [List.mem_cons] at hz
        rcases hz with rfl | rfl | hz
        · exact hx
        · exact hy
        · exact hk z hz
      have one : ∀ x : It, roIt c x = true → ∀ z ∈ x :: k, roIt c z = true := fun x hx z hz => by
        simp only [List.mem_cons] at hz
        rcases hz with rfl | hz
        · exact hx
        · exact hk z hz
      cases it with
      | inBlock id => exact ih k S hk (by simpa [runM] using h)
      | inScope x => exact ih k S hk (by simpa [runM] using h)
      | inLoop x => exact loop x h0 (by simpa [runM] using h)
      | code x =>
        cases x with
        | ret => exact ⟨S, by simpa [runM] using h, Pre.of_eq rfl⟩
        | skip => exact ih k S hk (by simpa [runM] using h)
        | label l => exact ih k S hk (by simpa [runM] using h)
        | seq x y =>
          simp only [roIt, roCode, Bool.and_eq_true] at h0
          exact ih _ S (two (.code x) (.code y) h0.1 h0.2) (by simpa [runM] using h)
        | scope x => exact ih _ S (two (.code x) (.inScope x) h0 rfl) (by simpa [runM] using h)
        | block id x => exact ih _ S (two (.code x) (.inBlock id) h0 rfl) (by simpa [runM] using h)
        | loop x => exact loop x h0 (by simpa [runM] using h)
        | exit id =>
          simp only [runM] at h
          split at h
          · rename_i k' hk'
            exact ih k' S (roIt_exit id k k' hk' hk) h
          · cases h
        | cond x y z =>
          simp only [roIt, roCode, Bool.and_eq_true] at h0
          simp only [runM] at h
          have ref : ∀ (b : Bool) (K : St → Option R), refineK S x b K = some r → ∃ S', K S' = some r ∧ S'.objs = S.objs := by
            intro b K h
            cases x with
            | tmp s => simp only [refineK, putK_eq] at h; exact ⟨_, h, rfl⟩
            | _ => exact ⟨S, h, rfl⟩
          split at h
          · split at h
            · obtain ⟨S1, h1, h2⟩ := ref _ _ h
              exact go _ S1 (one (.code y) h0.1) h1 (Pre.of_eq h2)
            · obtain ⟨S1, h1, h2⟩ := ref _ _ h
              exact go _ S1 (one (.code z) h0.2) h1 (Pre.of_eq h2)
          · cases h
        | region id ops draw =>
          simp only [roIt, roCode, List.all_eq_true] at h0
          simp only [runM] at h
          split at h
          · cases h
          · split at h
            · split at h
              · cases h
              · obtain ⟨bb, _, h2⟩ := Option.bind_eq_some_iff.1 h
                obtain ⟨S1, h3, h4⟩ := forgetK_pre _ S h2
                rw [putK_eq] at h3
                exact go k _ hk h3 (Pre.of_eq h4)
            · obtain ⟨S1, h1, h2⟩ := opsK_pre hinl n _ S h0 h
              exact go k S1 hk h1 h2
        | _ => simp [runM] at h

theorem runN_pre (hinl : ∀ f, c.inl f = false) {n : Nat} {call : FuncId → Fun} {icall : ICall R} {rs : List Nat} {base : Nat} (hn : n ≤ base) {fin : St → Option R} {r : R} :
    ∀ (m : Nat) (td : List It) (S : St), (∀ x ∈ td, roIt c x = true) → runN c call icall rs base fin m td S = some r → ∃ S', fin S' = some r ∧ Pre n S S'
  | 0, td, S, _, h => by simp [runN] at h
  | m + 1, td, S, hro, h => runM_pre hinl hn (fun td S hro h => runN_pre hinl hn m td S hro h) depth td S hro (by simpa only [runN] using h)

/-! What a run comes to is what its end comes to. -/
theorem opsK_fin (hinl : ∀ f, c.inl f = false) {call : FuncId → Fun} {icall : ICall R} {ops : List Oper} {K : St → Option R} {r : R} : ∀ (l : List Oper) (S : St), opsK c call icall ops l S K = some r → ∃ S', K S' = some r
  | [], S, h => ⟨S, h⟩
  | o :: l, S, h => by
    rw [opsK_cons] at h
    obtain ⟨F, hF, _⟩ := stepF_ex hinl call ops o
    rw [hF] at h
    obtain ⟨S1, _, h1⟩ := Option.bind_eq_some_iff.1 h
    exact opsK_fin hinl l S1 h1

theorem runM_fin (hinl : ∀ f, c.inl f = false) {call : FuncId → Fun} {icall : ICall R} {rs : List Nat} {base : Nat} {again : List It → St → Option R} {fin : St → Option R} {r : R}
    (hagain : ∀ td S, again td S = some r → ∃ S', fin S' = some r) :
    ∀ (m : Nat) (td : List It) (S : St), runM c call icall rs base again fin m td S = some r → ∃ S', fin S' = some r := by
  intro m
  induction m with
  | zero => intro td S h; simp [runM] at h
  | succ m ih =>
    intro td S h
    cases td with
    | nil => exact ⟨S, by simpa [runM] using h⟩
    | cons it k =>
      have loop : ∀ x, S.normK (liveT rs (.inLoop x :: k)).n base (fun S => again (.code x :: .inLoop x :: k) S) = some r → ∃ S', fin S' = some r := by
        intro x h
        obtain ⟨S1, h1, _⟩ := normK_pre (Nat.zero_le base) h
        exact hagain _ S1 h1
      cases it with
      | inBlock id => exact ih k S (by simpa [runM] using h)
      | inScope x => exact ih k S (by simpa [runM] using h)
      | inLoop x => exact loop x (by simpa [runM] using h)
      | code x =>
        cases x with
        | ret => exact ⟨S, by simpa [runM] using h⟩
        | skip => exact ih k S (by simpa [runM] using h)
        | label l => exact ih k S (by simpa [runM] using h)
        | seq x y => exact ih _ S (by simpa [runM] using h)
        | scope x => exact ih _ S (by simpa [runM] using h)
        | block id x => exact ih _ S (by simpa [runM] using h)
        | loop x => exact loop x (by simpa [runM] using h)
        | exit id =>
          simp only [runM] at h
          split at h
          · rename_i k' hk'
            exact ih k' S h
          · cases h
        | cond x y z =>
          simp only [runM] at h
          have ref : ∀ (b : Bool) (K : St → Option R), refineK S x b K = some r → ∃ S', K S' = some r := by
            intro b K h
            cases x with
            | tmp s => simp only [refineK, putK_eq] at h; exact ⟨_, h⟩
            | _ => exact ⟨S, h⟩
          split at h
          · split at h
            · obtain ⟨S1, h1⟩ := ref _ _ h
              exact ih _ S1 h1
            · obtain ⟨S1, h1⟩ := ref _ _ h
              exact ih _ S1 h1
          · cases h
        | region id ops draw =>
          simp only [runM] at h
          split at h
          · cases h
          · split at h
            · split at h
              · cases h
              · obtain ⟨bb, _, h2⟩ := Option.bind_eq_some_iff.1 h
                obtain ⟨S1, h3, _⟩ := forgetK_pre _ S h2
                rw [putK_eq] at h3
                exact ih k _ h3
            · obtain ⟨S1, h1⟩ := opsK_fin hinl _ S h
              exact ih k S1 h1
        | _ => simp [runM] at h

theorem runN_fin (hinl : ∀ f, c.inl f = false) {call : FuncId → Fun} {icall : ICall R} {rs : List Nat} {base : Nat} {fin : St → Option R} {r : R} :
    ∀ (m : Nat) (td : List It) (S : St), runN c call icall rs base fin m td S = some r → ∃ S', fin S' = some r
  | 0, td, S, h => by simp [runN] at h
  | m + 1, td, S, h => runM_fin hinl (fun td S h => runN_fin hinl m td S h) depth td S (by simpa only [runN] using h)
end
end Go.Ev
