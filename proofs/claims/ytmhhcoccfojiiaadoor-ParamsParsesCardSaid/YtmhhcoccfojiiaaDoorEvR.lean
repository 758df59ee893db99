/- Regions, as a whole. -/
import Derived.Test.YtmhhcoccfojiiaaDoorEvQ
namespace Go.Ev

section
variable {c : Cfg} {E : Ent} {R : Type}

def rem (n : Nat) (listed : Array Bool) : List Nat := (List.range n).filter fun i => !listed.getD i true

theorem mem_rem {n : Nat} {listed : Array Bool} {i : Nat} : i ∈ rem n listed ↔ i < n ∧ listed.getD i true = false := by
  simp [rem]

theorem rem_sorted (n : Nat) (listed : Array Bool) : (rem n listed).Pairwise (· < ·) := List.Pairwise.filter _ List.pairwise_lt_range

theorem rem_take {n : Nat} {listed : Array Bool} {j : Nat} {pre post : List Nat} (h : rem n listed = pre ++ j :: post) (hs : listed.size = n) : rem n (listed.setIfInBounds j true) = pre ++ post := by
  have h1 : rem n (listed.setIfInBounds j true) = (rem n listed).filter fun i => i != j := by
    unfold rem
    rw [List.filter_filter]
    refine List.filter_congr fun i hi => ?_
    by_cases hij : j = i
    · subst hij
      have : j < listed.size := by rw [hs]; simpa using hi
      simp [this]
    · have : (i != j) = true := by simp; omega
      rw [getD_set_ne true hij, this]; simp
  rw [h1, h]
  have hsort := rem_sorted n listed
  rw [h, List.pairwise_append] at hsort
  obtain ⟨_, h3, h4⟩ := hsort
  rw [List.pairwise_cons] at h3
  rw [List.filter_append, List.filter_cons]
  have e1 : pre.filter (fun i => i != j) = pre := List.filter_eq_self.2 fun i hi => by
    have := h4 i hi j (by simp); simp; omega
  have e2 : post.filter (fun i => i != j) = post := List.filter_eq_self.2 fun i hi => by
    have := h3.1 i hi; simp; omega
  rw [e1, e2]; simp

theorem anc {ops : Array Oper} (hof : orderFree c ops.toList = true) {listed : Array Bool} (hcl : ∀ j, listed.getD j false = true → ∀ o, ops[j]? = some o → ∀ e ∈ o.after, Region.binds .any e = true → listed.getD e.on false = true) :
    ∀ (n j : Nat), j ≤ n → ∀ o, ops[j]? = some o → (∀ e ∈ o.after, Region.binds .any e = true → listed.getD e.on false = true) → ∀ i, ((ahead ops.toList []).getD j 0).testBit i = true → listed.getD i false = true := by
  intro n
  induction n with
  | zero =>
    intro j hj o ho hb i hi
    obtain ⟨e, h1, h2, h3⟩ := ahead_spec ops.toList [] i j o (by simpa using ho) (by simpa using hi)
    have := (orderFree_spec hof j o (by simpa using ho)).1 e h1 h2
    omega
  | succ n ih =>
    intro j hj o ho hb i hi
    obtain ⟨e, h1, h2, h3⟩ := ahead_spec ops.toList [] i j o (by simpa using ho) (by simpa using hi)
    have hlt := (orderFree_spec hof j o (by simpa using ho)).1 e h1 h2
    have hle := hb e (by simpa using h1) h2
    rcases h3 with h3 | h3
    · rw [← h3]; exact hle
    · have hj2 : j < ops.size := (Array.getElem?_eq_some_iff.1 ho).1
      have ho2 : ops[e.on]? = some ops[e.on] := Array.getElem?_eq_getElem (by omega)
      exact ih e.on (by omega) _ ho2 (fun e' he' hb' => hcl e.on hle _ ho2 e' he' hb') i h3

theorem any_ok (hc : CfgOk c) {call : FuncId → Fun} (hcall : ∀ f, FunOk c f (call f)) {icall : ICall R} {ops : Array Oper} (hof : orderFree c ops.toList = true) {K : St → Option R} {r : R} {d : List Deferred}
    {Q : Exit → Act → World → Prop} (hQ : ∀ a w, Post c E K r d a w → Q .normal a w) :
    ∀ (fuel : Nat) (listed : Array Bool) (a : Act) (w : World) (G : Gh) (μ : List Nat) (S : St), listed.size = ops.size → (rem ops.size listed).length ≤ fuel →
      (∀ j, listed.getD j false = true → ∀ o, ops[j]? = some o → ∀ e ∈ o.after, Region.binds .any e = true → listed.getD e.on false = true) →
      opsK c call icall ops.toList ((rem ops.size listed).filterMap (ops.toList[·]?)) S K = some r → SimS c E w G μ S a → a.defers = d → wpAny c.P .any ops Q fuel listed a w := by
  have hsub : ∀ (listed : Array Bool) j, j ∈ Region.ready .any ops listed → j ∈ rem ops.size listed := by
    intro listed j hj
    obtain ⟨h1, o, h2, _⟩ := mem_ready.1 hj
    exact mem_rem.2 ⟨(Array.getElem?_eq_some_iff.1 h2).1, h1⟩
  have hend : ∀ (listed : Array Bool) (a : Act) (w : World) (G : Gh) (μ : List Nat) (S : St), rem ops.size listed = [] →
      opsK c call icall ops.toList ((rem ops.size listed).filterMap (ops.toList[·]?)) S K = some r → SimS c E w G μ S a → a.defers = d → Q .normal a w := by
    intro listed a w G μ S h0 h hS hd
    rw [h0] at h
    exact hQ a w ⟨S, G, μ, h, hS, hd⟩
  intro fuel
  induction fuel with
  | zero =>
    intro listed a w G μ S hs hl hcl h hS hd
    have h0 : rem ops.size listed = [] := List.eq_nil_of_length_eq_zero (by omega)
    refine ⟨?_, hend listed a w G μ S h0 h hS hd⟩
    cases hr : Region.ready .any ops listed with
    | nil => rfl
    | cons j t => have := hsub listed j (by rw [hr]; simp); rw [h0] at this; cases this
  | succ fuel ih =>
    intro listed a w G μ S hs hl hcl h hS hd
    refine ⟨fun hr => ?_, fun j hj => ?_⟩
    · cases h0 : rem ops.size listed with
      | nil => exact hend listed a w G μ S h0 h hS hd
      | cons m t =>
        have hm := mem_rem.1 (by rw [h0]; simp : m ∈ rem ops.size listed)
        have hsort := rem_sorted ops.size listed
        rw [h0, List.pairwise_cons] at hsort
        have ho : ops[m]? = some ops[m] := Array.getElem?_eq_getElem hm.1
        have : m ∈ Region.ready .any ops listed := mem_ready.2 ⟨hm.2, _, ho, fun e he hb => by
          have hlt := (orderFree_spec hof m ops[m] (by simp [hm.1])).1 e (by simpa using he) hb
          apply Classical.byContradiction
          intro hn
          have h1 : listed.getD e.on true = false := by
            have : e.on < listed.size := by omega
            simp [Array.getD_eq_getD_getElem?, Array.getElem?_eq_getElem this] at hn ⊢
            exact hn
          have h2 : e.on ∈ rem ops.size listed := mem_rem.2 ⟨by omega, h1⟩
          rw [h0, List.mem_cons] at h2
          rcases h2 with h2 | h2
          · omega
          · have := hsort.1 _ h2; omega⟩
        rw [hr] at this; cases this
    · have hjr := hsub listed j hj
      obtain ⟨hj0, y, hy, hall⟩ := mem_ready.1 hj
      obtain ⟨pre, post, hpp⟩ := List.append_of_mem hjr
      have hyl : ops.toList[j]? = some y := by simpa using hy
      have hsort := rem_sorted ops.size listed
      rw [hpp, List.pairwise_append] at hsort
      rw [hpp, List.filterMap_append, List.filterMap_cons, hyl] at h
      simp only at h
      have hf := opsK_front hc.inl (pre.filterMap (ops.toList[·]?)) S (fun x hx => by
        obtain ⟨i, hi, hix⟩ := List.mem_filterMap.1 hx
        refine (orderFree_spec hof j y hyl).2 i x hix (hsort.2.2 i hi j (by simp)) ?_
        cases htb : ((ahead ops.toList []).getD j 0).testBit i with
        | false => rfl
        | true =>
          have h1 := anc hof hcl j j (Nat.le_refl _) y hy hall i htb
          have h2 := (mem_rem.1 (by rw [hpp]; simp [hi] : i ∈ rem ops.size listed))
          have h3 : i < listed.size := by omega
          have h4 := h2.2
          simp [Array.getD_eq_getD_getElem?, Array.getElem?_eq_getElem h3] at h1 h4
          rw [h1] at h4; cases h4) h
      rw [opsK_cons] at hf
      have hw := step_ok hc hcall (Q := Q) hy hf hS
      refine wpOp_mono (fun a' w' hp => ?_) hw
      obtain ⟨S', G', μ', hk, hs', hd'⟩ := hp
      have hrt := rem_take hpp hs
      refine ih (listed.setIfInBounds j true) a' w' G' μ' S' (by simpa using hs) ?_ (fun k hk' o ho e he hb => ?_) ?_ hs' (by rw [hd', hd])
      · rw [hrt]; rw [hpp] at hl; simp at hl ⊢; omega
      · by_cases hjk : j = k
        · subst hjk
          rw [hy] at ho; cases ho
          exact getD_set_true (hall e he hb)
        · rw [getD_set_ne false hjk] at hk'
          exact getD_set_true (hcl k hk' o ho e he hb)
      · rw [hrt, List.filterMap_append]; exact hk

theorem wpOps_ok (hc : CfgOk c) {call : FuncId → Fun} (hcall : ∀ f, FunOk c f (call f)) {icall : ICall R} {ops : Array Oper} {K : St → Option R} {r : R} {d : List Deferred}
    {Q : Exit → Act → World → Prop} (hQ : ∀ a w, Post c E K r d a w → Q .normal a w) : ∀ (l : List Nat) (a : Act) (w : World) (G : Gh) (μ : List Nat) (S : St), (∀ i ∈ l, i < ops.size) →
      opsK c call icall ops.toList (l.filterMap (ops.toList[·]?)) S K = some r → SimS c E w G μ S a → a.defers = d → wpOps c.P ops Q l a w
  | [], a, w, G, μ, S, _, h, hS, hd => hQ a w ⟨S, G, μ, h, hS, hd⟩
  | i :: l, a, w, G, μ, S, hl, h, hS, hd => by
    have hi := hl i (by simp)
    have ho : ops[i]? = some ops[i] := Array.getElem?_eq_getElem hi
    rw [List.filterMap_cons, show ops.toList[i]? = some ops[i] by simp] at h
    simp only at h
    rw [opsK_cons] at h
    rw [wpOps_cons]
    refine wpOp_mono (fun a' w' hp => ?_) (step_ok hc hcall (Q := Q) ho h hS)
    obtain ⟨S', G', μ', hk, hs', hd'⟩ := hp
    exact wpOps_ok hc hcall hQ l a' w' G' μ' S' (fun i hi => hl i (by simp [hi])) hk hs' (by rw [hd', hd])

theorem filterMap_range {α : Type} (l : List α) : (List.range l.length).filterMap (l[·]?) = l := by
  apply List.ext_getElem?
  intro i
  have : ∀ (n : Nat), n ≤ l.length → (List.range n).filterMap (l[·]?) = l.take n := by
    intro n
    induction n with
    | zero => intro _; simp
    | succ n ih =>
      intro hn
      rw [List.range_succ, List.filterMap_append, ih (by omega), List.take_add_one]
      simp [List.getElem?_eq_getElem (by omega : n < l.length)]
  rw [this l.length (Nat.le_refl _), List.take_length]

/-- A region, in whatever order it runs. -/
theorem region_ok (hc : CfgOk c) {call : FuncId → Fun} (hcall : ∀ f, FunOk c f (call f)) {icall : ICall R} {id : Nat} {ops : Array Oper} {draw : Bool} (hof : (draw && !orderFree c ops.toList) = false) {K : St → Option R} {r : R}
    {a : Act} {w : World} {G : Gh} {μ : List Nat} {S : St} (h : opsK c call icall ops.toList ops.toList S K = some r) (hS : SimS c E w G μ S a) :
    (Code.region id ops draw).wp c.P (fun e a' w' => e = .normal ∧ Post c E K r a.defers a' w') a w := by
  cases draw with
  | false =>
    refine wp_region (wpOps_ok hc hcall (icall := icall) (d := a.defers) (fun a' w' h => ⟨rfl, h⟩) _ a w G μ S (fun i hi => by simpa using hi) ?_ hS rfl)
    have := filterMap_range ops.toList
    rw [Array.length_toList] at this
    rw [this]; exact h
  | true =>
    have hof : orderFree c ops.toList = true := by simpa using hof
    have hx : WExt w G { w with drawn := w.drawn + 1 } G := WExt.of_drew hS.inv.none
    have hrem : rem ops.size (Array.replicate ops.size false) = List.range ops.size := by
      unfold rem
      rw [List.filter_eq_self]
      intro i hi
      have : i < ops.size := by simpa using hi
      simp [this]
    refine wp_region_any hc.mixed (any_ok hc hcall (icall := icall) hof (d := a.defers) (fun a' w' h => ⟨rfl, h⟩) ops.size _ a _ G μ S (by simp) (by rw [hrem]; simp) (fun j hj => ?_) ?_ (hS.ext hx) rfl)
    · by_cases hl : j < ops.size
      · simp [hl] at hj
      · simp [hl] at hj
    · rw [hrem]
      have := filterMap_range ops.toList
      rw [Array.length_toList] at this
      rw [this]; exact h
end
end Go.Ev
