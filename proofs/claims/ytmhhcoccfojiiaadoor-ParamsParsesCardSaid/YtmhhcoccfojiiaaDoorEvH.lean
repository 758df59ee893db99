/- Lists that are appended to. -/
import Derived.Test.YtmhhcoccfojiiaaDoorEvG
namespace Go.Ev

section
variable {c : Cfg} {E : Ent} {w w' : World} {G G' : Gh} {μ : List Nat} {env env' : List V} {tmps tmps' : List Value} {objs : List Ob}

theorem flat_append (a b : List Value) : flat (a ++ b) = flat a ++ flat b := by simp [flat]
theorem flat_length {size : Nat} : ∀ (l : List Value), (∀ x ∈ l, x.cells.size = size) → (flat l).length = l.length * size
  | [], _ => by simp [flat]
  | x :: l, h => by
    have h1 := h x (by simp)
    have h2 := flat_length l (fun y hy => h y (by simp [hy]))
    simp only [flat, List.flatMap_cons, List.length_append, List.length_cons] at h2 ⊢
    rw [h2, Array.length_toList, h1, Nat.add_mul]; omega

/-- A list of its own is longer, where it lies. -/
theorem Sim.appendIn {e : TypeId} {xs ys : List V} {a : Addr} {m : Nat} (h : Sim c E w G μ (.lst e true xs :: env) (.slice (some a) xs.length m :: tmps) objs)
    {news : List Value} (hl : news.length = ys.length) (hy0 : ys ≠ []) (hroom : xs.length + ys.length ≤ m)
    (hr : ∀ (i : Nat) v x, ys[i]? = some v → news[i]? = some x → Rep c w G [] v x) (hf : ∀ v ∈ ys, fitsE c e v = true) (hs : ∀ x ∈ news, x.cells.size = tySize c e)
    (hsin : ∀ x ∈ flat news, single x = true) :
    a.spot = none ∧ ∃ w' G', (storeCells (a.add (xs.length * tySize c e)) (flat news)).run c.P w = .ok () w' ∧
      Sim c E w' G' μ (.lst e true (xs ++ ys) :: env) (.slice (some a) (xs.length + ys.length) m :: tmps) objs := by
  have hpos : 0 < ys.length := by cases ys with | nil => exact absurd rfl hy0 | cons _ _ => simp
  have hlf : leaf3 (.lst e true xs) (.slice (some a) xs.length m) = [⟨e, a, xs.length, m⟩] := by
    simp only [leaf3, leaf2, leaf1, if_pos (show xs.length < m by omega)]
  have hzz : zipF leaf3 (.lst e true xs :: env) (.slice (some a) xs.length m :: tmps) = ⟨e, a, xs.length, m⟩ :: zipF leaf3 env tmps := by
    show leaf3 _ _ ++ zipF leaf3 env tmps = _
    rw [hlf]; rfl
  obtain ⟨hsp, cs, elem, fr, hb, hGa, hcap, hfr⟩ := h.inv.ok ⟨e, a, xs.length, m⟩ (by rw [hzz]; simp)
  simp only at hsp hb hGa hcap hfr
  have hrv := h.inv.rep 0 _ _ rfl rfl
  have hsize0 : 0 < tySize c e := by cases hrv; assumption
  have hnl : (flat news).length = ys.length * tySize c e := by rw [flat_length news hs, hl]
  have ha : a.add (xs.length * tySize c e) = ⟨a.block, G a.block, none⟩ := by
    obtain ⟨ab, ao, as⟩ := a
    simp only at hsp hGa; subst hsp
    rw [Addr.add_lit, hGa]
  have hmul : (xs.length + ys.length) * tySize c e ≤ m * tySize c e := Nat.mul_le_mul_right _ hroom
  rw [Nat.add_mul] at hmul
  have hlt := heap_lt hb
  obtain ⟨cs', hrun, hcs'⟩ := run_storeCells_blk c.P a.block (G a.block) elem fr (flat news) 0 cs w hb (by rw [hnl, hGa]; omega) hsin
    (fun o ho ho' => by
      simp only [Nat.add_zero] at ho ho'
      exact hfr o ho (by rw [hnl, hGa] at ho'; omega))
  simp only [Nat.add_zero] at hcs'
  refine ⟨hsp, blk w a.block (.cells cs' elem fr), fun k => if k = a.block then G k + (flat news).length else G k, by rw [ha]; exact hrun, ?_⟩
  have hone := h.inv.one a.block
  rw [hzz] at hone
  have hcons : ∀ q (l : Leaf) (k : List Leaf), cnt q (l :: k) = (if l.a.block = q then 1 else 0) + cnt q k := by
    intro q l k; simp only [cnt, List.countP_cons, beq_iff_eq]; omega
  rw [hcons] at hone
  simp only [if_true] at hone
  have hE : cnt a.block (zipF leaf3 env tmps) = 0 := by omega
  have hOO : cnt a.block (leafO w objs μ) = 0 := by omega
  have hMu : μ.count a.block = 0 := by omega
  have hseal : Seal w G (blk w a.block (.cells cs' elem fr)) (fun k => if k = a.block then G k + (flat news).length else G k) := by
    refine ⟨fun k o ho => ?_, fun k => by show G k ≤ (if k = a.block then G k + (flat news).length else G k); split <;> omega⟩
    by_cases hk : k = a.block
    · subst hk
      simp only [World.cell?, blk_same hlt, hb]
      have hlen' : o < cs.toList.length := by
        have : G a.block ≤ cs.size := by rw [hGa]; omega
        simp; omega
      have e1 : cs'.toList[o]? = cs.toList[o]? := by
        rw [hcs', List.append_assoc, List.getElem?_append_left (by simp at hlen' ⊢; omega), List.getElem?_take, if_pos ho]
      simpa using e1
    · exact cell?_of_heap (blk_other hk)
  have hO : leafO (blk w a.block (.cells cs' elem fr)) objs μ = leafO w objs μ := leafO_same objs μ fun b hbm => blk_other fun e => by
    rw [e] at hbm; have := List.count_pos_iff.2 hbm; omega
  have hrep' : Rep c (blk w a.block (.cells cs' elem fr)) (fun k => if k = a.block then G k + (flat news).length else G k) μ (.lst e true (xs ++ ys)) (.slice (some a) (xs.length + ys.length) m) := by
    cases hrv with
    | lst _ _ _ _ _ l hl0 hr0 hf0 hs0 hz0 hc0 ha0 hrow0 =>
      have hfl0 : (flat l).length = xs.length * tySize c e := by rw [flat_length l hs0, hl0]
      have := Rep.lst (c := c) (w := blk w a.block (.cells cs' elem fr)) (G := fun k => if k = a.block then G k + (flat news).length else G k) (μ := μ) e true (xs ++ ys) (some a) m (l ++ news)
        (by simp [hl0, hl]) (fun i v x hv hx => by
          by_cases hi : i < xs.length
          · rw [List.getElem?_append_left hi] at hv
            rw [List.getElem?_append_left (by omega)] at hx
            exact (hr0 i v x hv hx).mono hseal
          · rw [List.getElem?_append_right (by omega)] at hv hx
            rw [hl0] at hx
            exact (hr _ v x hv hx).mono hseal)
        (fun v hv => by rw [List.mem_append] at hv; exact hv.elim (hf0 v) (hf v))
        (fun x hx => by rw [List.mem_append] at hx; exact hx.elim (hs0 x) (hs x))
        hsize0 (by simpa using hroom) (fun h => by cases h)
        (fun p hp _ => by
          cases hp
          refine ⟨hsp, fun j x hj => ?_⟩
          rw [flat_append] at hj
          by_cases hjl : j < (flat l).length
          · rw [List.getElem?_append_left hjl] at hj
            have hne : xs ≠ [] := fun hxe => by rw [hxe] at hfl0; simp only [List.length_nil, Nat.zero_mul] at hfl0; rw [hfl0] at hjl; exact absurd hjl (Nat.not_lt_zero _)
            exact (hrow0 a rfl hne).2.mono hseal j x hj
          · rw [List.getElem?_append_right (by omega)] at hj
            have hjn := (List.getElem?_eq_some_iff.1 hj).1
            have hao : a.off + j = G a.block + (j - (flat l).length) := by rw [hGa]; omega
            refine ⟨?_, by simp only [if_true]; omega⟩
            simp only [World.cell?, blk_same hlt]
            have e1 : cs'.toList[a.off + j]? = some x := by
              rw [hcs', hao, List.append_assoc, List.getElem?_append_right (by simp; omega)]
              rw [List.getElem?_append_left (by simp; omega)]
              rw [← hj]; congr 1
              have : G a.block ≤ cs.size := by rw [hGa]; omega
              simp; omega
            simpa using e1)
      simpa using this
  have hleaf' : ∀ l, l ∈ leaf3 (.lst e true (xs ++ ys)) (.slice (some a) (xs.length + ys.length) m) → l = ⟨e, a, xs.length + ys.length, m⟩ := by
    intro l hl
    simp only [leaf3, leaf2, leaf1] at hl
    split at hl <;> simp at hl
    exact hl
  have hcnt' : ∀ q, cnt q (leaf3 (.lst e true (xs ++ ys)) (.slice (some a) (xs.length + ys.length) m)) ≤ (if a.block = q then 1 else 0) := by
    intro q
    simp only [leaf3, leaf2, leaf1]
    split
    · rw [hcons]; simp [cnt]
    · simp [cnt]
  have hzz' : zipF leaf3 (.lst e true (xs ++ ys) :: env) (.slice (some a) (xs.length + ys.length) m :: tmps) =
      leaf3 (.lst e true (xs ++ ys)) (.slice (some a) (xs.length + ys.length) m) ++ zipF leaf3 env tmps := rfl
  have hothers : ∀ l, l ∈ zipF leaf3 env tmps ++ leafO w objs μ → l.a.block ≠ a.block := by
    intro l hl e
    rw [List.mem_append] at hl
    rcases hl with hl | hl
    · have := cnt_pos.2 ⟨l, hl, e⟩; omega
    · have := cnt_pos.2 ⟨l, hl, e⟩; omega
  refine ⟨⟨by simpa using h.inv.len, fun i u y hu hy => ?_, h.inv.olen, fun i o b ho hb' => ?_, fun q => ?_, fun l hl => ?_, fun b hbm => ?_, fun b hbs => ?_⟩,
    ⟨by rw [blk_size]; exact h.stp.size, h.stp.sealed.trans hseal, fun b hbs hu => ?_, h.stp.os, h.stp.out, h.stp.tape⟩, fun b hbs hcc => ?_, h.pre⟩
  · cases i with
    | zero => simp at hu hy; subst hu; subst hy; exact hrep'
    | succ i => exact (h.inv.rep (i + 1) u y (by simpa using hu) (by simpa using hy)).mono hseal
  · exact (h.inv.obs i o b ho hb').mono hseal (blk_other fun e => by
      rw [e] at hb'; have := List.count_pos_iff.2 (List.mem_of_getElem? hb'); omega)
  · rw [hzz', cnt_append, hO]
    have h1 := h.inv.one q
    rw [hzz, hcons] at h1
    have h2 := hcnt' q
    simp only at h1
    split at h1 <;> rename_i hq
    · rw [if_pos hq] at h2; omega
    · rw [if_neg hq] at h2; omega
  · rw [hzz', hO, List.append_assoc, List.mem_append] at hl
    rcases hl with hl | hl
    · have := hleaf' l hl; subst this
      refine ⟨hsp, cs', elem, fr, blk_same hlt, by simp only [if_true]; rw [hGa, hnl, Nat.add_mul]; omega, ?_, fun o ho ho' => ?_⟩
      · have : cs'.size = cs.size := by
          have := congrArg List.length hcs'
          have h3 : G a.block + (flat news).length ≤ cs.size := by rw [hGa, hnl]; omega
          simp at this; omega
        rw [this]; exact hcap
      · have : cs'.size = cs.size := by
          have := congrArg List.length hcs'
          have h3 : G a.block + (flat news).length ≤ cs.size := by rw [hGa, hnl]; omega
          simp at this; omega
        simp only [if_true] at ho
        exact hfr o (by omega) (by omega)
    · have hne := hothers l hl
      have hk : OkLeaf c w G l := h.inv.ok l (by rw [hzz]; simp only [List.mem_append, List.mem_cons] at hl ⊢; rcases hl with hl | hl; exact .inl (.inr hl); exact .inr hl)
      exact hk.same (blk_other hne) (by simp [hne])
  · have := h.inv.mine b hbm
    have hne : b ≠ a.block := fun e => by rw [e] at hbm; have := List.count_pos_iff.2 hbm; omega
    exact ⟨by rw [blk_size]; exact this.1, by simp [hne, this.2]⟩
  · rw [blk_size] at hbs
    have hne : b ≠ a.block := by omega
    simp [hne, h.inv.none b hbs]
  · have hne : b ≠ a.block := fun e => by
      subst e
      refine hu (h.own _ hbs ?_)
      rw [hzz, hcons]; simp only [if_true]; omega
    have := h.stp.keep b hbs hu
    exact ⟨(blk_other hne).trans this.1, by simp [hne, this.2]⟩
  · refine h.own b hbs ?_
    rw [hzz', cnt_append, hO] at hcc
    rw [hzz, hcons]
    have h2 := hcnt' b
    simp only at h2 ⊢
    split at h2 <;> rename_i hq
    · rw [if_pos hq]; omega
    · rw [if_neg hq]; omega

theorem flat_single {e : TypeId} {ys : List V} {news : List Value} (hl : news.length = ys.length) (hr : ∀ (i : Nat) v x, ys[i]? = some v → news[i]? = some x → Rep c w G [] v x)
    (hf : ∀ v ∈ ys, fitsE c e v = true) : ∀ x ∈ flat news, single x = true := by
  intro x hx
  obtain ⟨z, hz, hxz⟩ := List.mem_flatMap.1 hx
  obtain ⟨i, hi⟩ := List.getElem?_of_mem hz
  have hlt : i < ys.length := by have := (List.getElem?_eq_some_iff.1 hi).1; omega
  have hrv := hr i _ z (List.getElem?_eq_getElem hlt) hi
  have hfv := hf _ (List.getElem_mem hlt)
  generalize ys[i] = v at hrv hfv
  have hsing : ∀ (sh : List CSh) (cs : List V), fitsCells sh cs = true → ∀ u ∈ cs, u.single = true := by
    intro sh
    induction sh with
    | nil => intro cs h u hu; cases cs <;> simp_all [fitsCells]
    | cons s sh ih =>
      intro cs h u hu
      cases cs with
      | nil => cases hu
      | cons d cs =>
        simp only [fitsCells, Bool.and_eq_true] at h
        rcases List.mem_cons.1 hu with rfl | hu
        · cases s <;> cases u <;> simp_all [CSh.fits, V.single]
        · exact ih cs h.2 u hu
  unfold fitsE at hfv
  split at hfv
  · rename_i y hy
    unfold RSh.fits at hfv
    split at hfv
    · split at hfv
      · rename_i cs
        cases hrv with
        | agg _ l hl hs hr => simp [Value.cells] at hxz; exact hs x hxz
      · cases hfv
    · have hsv := hsing _ _ hfv v (by simp)
      have hsz := single_of hrv hsv
      rw [cells_of_single hsz] at hxz
      simp at hxz; subst hxz; exact hsz
  · cases hfv
end
end Go.Ev
