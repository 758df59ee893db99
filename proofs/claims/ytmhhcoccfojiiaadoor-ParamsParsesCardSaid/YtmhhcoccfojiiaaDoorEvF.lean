/- Memory: new rows, rows that are appended to, objects that are read and written. -/
import Derived.Test.YtmhhcoccfojiiaaDoorEvE
import Derived.Laws.Append
import Derived.Laws.AppendOwn
namespace Go.Ev

/-- A block's new content. -/
def blk (w : World) (b : Nat) (o : Obj) : World := { w with heap := w.heap.setIfInBounds b o }

theorem blk_same {w : World} {b : Nat} {o : Obj} (h : b < w.heap.size) : (blk w b o).heap[b]? = some o := by simp [blk, h]
theorem blk_other {w : World} {b k : Nat} {o : Obj} (h : k ≠ b) : (blk w b o).heap[k]? = w.heap[k]? := by
  simp only [blk]; rw [Array.getElem?_setIfInBounds_ne (Ne.symm h)]
theorem blk_size {w : World} {b : Nat} {o : Obj} : (blk w b o).heap.size = w.heap.size := by simp [blk]

theorem oneCell_of {x : Value} (h : single x = true) : x.oneCell' = true := by cases x <;> simp_all [single, Value.oneCell']
theorem cells_of_single {x : Value} (h : single x = true) : x.cells = #[x] := by cases x <;> simp_all [single, Value.cells]

theorem setCell_blk {w : World} {b o : Nat} {cs : Array Value} {e : TypeId} {fr : Nat × Nat} (h : w.heap[b]? = some (.cells cs e fr)) (v : Value) :
    w.setCell ⟨b, o, none⟩ v = blk w b (.cells (cs.setIfInBounds o v) e fr) := by
  have hlt := heap_lt h
  simp only [World.setCell, blk]
  congr 1
  apply Array.ext
  · simp
  · intro i h1 h2
    simp at h1 h2
    by_cases hi : b = i
    · subst hi
      have : w.heap[b] = .cells cs e fr := by simpa [Array.getElem?_eq_getElem hlt] using h
      simp [Array.getElem_modify, this]
    · rw [Array.getElem_modify, if_neg hi]; exact (Array.getElem_setIfInBounds_ne (by simpa using h2) hi).symm

theorem run_storeCells_blk (P : Program) (b : Nat) (off : Nat) (e : TypeId) (fr : Nat × Nat) : ∀ (vs : List Value) (i : Nat) (cs : Array Value) (w : World), w.heap[b]? = some (.cells cs e fr) →
    off + i + vs.length ≤ cs.size → (∀ x ∈ vs, single x = true) → (∀ o, off + i ≤ o → o < off + i + vs.length → ¬(fr.1 ≤ o ∧ o < fr.2)) →
    ∃ cs', (storeCells ⟨b, off, none⟩ vs i).run P w = .ok () (blk w b (.cells cs' e fr)) ∧ cs'.toList = cs.toList.take (off + i) ++ vs ++ cs.toList.drop (off + i + vs.length)
  | [], i, cs, w, h, _, _, _ => by
    refine ⟨cs, ?_, by simp⟩
    have hlt := heap_lt h
    have : blk w b (.cells cs e fr) = w := by
      simp only [blk]
      have hb : w.heap[b] = .cells cs e fr := by simpa [Array.getElem?_eq_getElem hlt] using h
      rw [← hb]
      have : w.heap.setIfInBounds b w.heap[b] = w.heap := by
        apply Array.ext
        · simp
        · intro k h1 h2
          by_cases hk : b = k
          · subst hk; simp
          · exact Array.getElem_setIfInBounds_ne h2 hk
      rw [this]
    simp [storeCells, this]
  | v :: vs, i, cs, w, h, hl, hs, hf => by
    have hlt := heap_lt h
    simp only [List.length_cons] at hl
    have hc : w.cell? ⟨b, off + i, none⟩ = some cs[off + i] := by
      simp only [World.cell?, h]; simp [Array.getElem?_eq_getElem (show off + i < cs.size by omega)]
    have hfz : w.frozen? ⟨b, off + i, none⟩ = false := by
      have := hf (off + i) (Nat.le_refl _) (by simp only [List.length_cons]; omega)
      simp only [World.frozen?, h]
      simpa using this
    have hst : (store ((⟨b, off, none⟩ : Addr).add i) v).run P w = .ok () (blk w b (.cells (cs.setIfInBounds (off + i) v) e fr)) := by
      rw [run_store P w _ v _ (oneCell_of (hs v (by simp))), Addr.add_lit, hc]
      simp only [hfz, Bool.false_eq_true, if_false, setCell_blk h]
    obtain ⟨cs', h1, h2⟩ := run_storeCells_blk P b off e fr vs (i + 1) (cs.setIfInBounds (off + i) v) (blk w b (.cells (cs.setIfInBounds (off + i) v) e fr)) (blk_same hlt)
      (by simp; omega) (fun x hx => hs x (by simp [hx])) (fun o ho ho' => hf o (by omega) (by simp only [List.length_cons]; omega))
    refine ⟨cs', ?_, ?_⟩
    · simp only [storeCells, Sem.run_bind, hst, Result.andThen_ok, h1]
      congr 1
      simp [blk]
    · rw [h2]
      simp only [Array.toList_setIfInBounds, List.length_cons]
      have e1 : (cs.toList.set (off + i) v).take (off + (i + 1)) = cs.toList.take (off + i) ++ [v] := by
        rw [show off + (i + 1) = off + i + 1 by omega, List.take_add_one]
        have hlt' : off + i < cs.toList.length := by simp; omega
        rw [List.getElem?_set_self hlt', List.take_set_of_le (Nat.le_refl _)]; rfl
      have e2 : (cs.toList.set (off + i) v).drop (off + (i + 1) + vs.length) = cs.toList.drop (off + i + (vs.length + 1)) := by
        rw [List.drop_set_of_lt (by omega)]; congr 1; omega
      rw [e1, e2]; simp

section
variable {c : Cfg} {E : Ent} {w w' : World} {G G' : Gh} {μ : List Nat} {env : List V} {tmps : List Value} {objs : List Ob}

theorem Sim.leaf_lt (h : Sim c E w G μ env tmps objs) {b : Nat} (hb : 0 < cnt b (zipF leaf3 env tmps) + cnt b (leafO w objs μ) + μ.count b) : b < w.heap.size := by
  by_cases h1 : 0 < cnt b (zipF leaf3 env tmps)
  · obtain ⟨l, hl, rfl⟩ := cnt_pos.1 h1
    exact (h.inv.ok l (by simp [hl])).lt
  by_cases h2 : 0 < cnt b (leafO w objs μ)
  · obtain ⟨l, hl, rfl⟩ := cnt_pos.1 h2
    exact (h.inv.ok l (by simp [hl])).lt
  · exact (h.inv.mine b (List.count_pos_iff.1 (by omega))).1

/-- A new row comes in front: a list of its own. -/
theorem Sim.newList (h : Sim c E w G μ env tmps objs) (hx : WExt w G w' G') {e : TypeId} {t : Bool} {xs : List V} {l : List Value} {cap : Nat} {cs : Array Value} {elem : TypeId} {fr : Nat × Nat}
    (hb : w'.heap[w.heap.size]? = some (.cells cs elem fr)) (hG : G' w.heap.size = (flat l).length) (hcs : ∀ (j : Nat) x, (flat l)[j]? = some x → cs[j]? = some x)
    (hl : l.length = xs.length) (hr : ∀ (i : Nat) v x, xs[i]? = some v → l[i]? = some x → Rep c w' G' [] v x) (hf : ∀ v ∈ xs, fitsE c e v = true) (hs : ∀ x ∈ l, x.cells.size = tySize c e)
    (hz : 0 < tySize c e) (hc : xs.length ≤ cap) (hcap : cap * tySize c e ≤ cs.size) (hfr : ∀ o, (flat l).length ≤ o → o < cs.size → ¬(fr.1 ≤ o ∧ o < fr.2))
    (hfl : (flat l).length = xs.length * tySize c e) :
    Sim c E w' G' μ (.lst e t xs :: env) (.slice (some ⟨w.heap.size, 0, none⟩) xs.length cap :: tmps) objs := by
  have h' := h.ext hx
  have hrow : SRow w' G' w.heap.size 0 (flat l) := by
    intro j x hj
    refine ⟨?_, ?_⟩
    · simp only [World.cell?, hb, Nat.zero_add]; simpa using hcs j x hj
    · rw [hG, Nat.zero_add]; exact (List.getElem?_eq_some_iff.1 hj).1
  have hrep : Rep c w' G' μ (.lst e t xs) (.slice (some ⟨w.heap.size, 0, none⟩) xs.length cap) :=
    .lst e t xs _ cap l hl hr hf hs hz hc (fun h => by cases h) (fun p hp _ => by cases hp; exact ⟨rfl, hrow⟩)
  have hO : leafO w' objs μ = leafO w objs μ := leafO_same objs μ fun b hb => (hx.keep b (h.inv.mine b hb).1).1
  have hnew : ∀ b, cnt b (leaf3 (.lst e t xs) (.slice (some ⟨w.heap.size, 0, none⟩) xs.length cap)) ≤ (if b = w.heap.size then 1 else 0) := by
    intro b
    cases t with
    | false => simp [leaf3, leaf2, leaf1, cnt]
    | true =>
      simp only [leaf3, leaf2, leaf1]
      split
      · by_cases hbb : b = w.heap.size
        · simp [cnt, hbb]
        · have : ¬ w.heap.size = b := fun e => hbb e.symm
          simp [cnt, hbb, this]
      · simp [cnt]
  have hold : cnt w.heap.size (zipF leaf3 env tmps) + cnt w.heap.size (leafO w objs μ) + μ.count w.heap.size = 0 := by
    rcases Nat.eq_zero_or_pos (cnt w.heap.size (zipF leaf3 env tmps) + cnt w.heap.size (leafO w objs μ) + μ.count w.heap.size) with h0 | h0
    · exact h0
    · exact absurd (h.leaf_lt h0) (Nat.lt_irrefl _)
  have hzz : zipF leaf3 (.lst e t xs :: env) (.slice (some ⟨w.heap.size, 0, none⟩) xs.length cap :: tmps) =
      leaf3 (.lst e t xs) (.slice (some ⟨w.heap.size, 0, none⟩) xs.length cap) ++ zipF leaf3 env tmps := rfl
  refine ⟨⟨by simpa using h'.inv.len, fun i u y hu hy => ?_, h'.inv.olen, h'.inv.obs, fun b => ?_, fun q hq => ?_, h'.inv.mine, h'.inv.none⟩, h'.stp, fun b hb' hcc => ?_, h'.pre⟩
  · cases i with
    | zero => simp at hu hy; subst hu; subst hy; exact hrep
    | succ i => exact h'.inv.rep i u y (by simpa using hu) (by simpa using hy)
  · rw [hzz, cnt_append]
    have h1 := hnew b
    have h2 := h.inv.one b
    rw [hO]
    by_cases hbb : b = w.heap.size
    · subst hbb; simp at h1; omega
    · simp [hbb] at h1; omega
  · rw [hzz, List.append_assoc, List.mem_append] at hq
    rcases hq with hq | hq
    · cases t with
      | false => simp [leaf3, leaf2, leaf1] at hq
      | true =>
        simp only [leaf3, leaf2, leaf1] at hq
        split at hq
        · simp at hq; subst hq
          exact ⟨rfl, cs, elem, fr, hb, by simp [hG, hfl], by simpa using hcap, fun o ho ho' => hfr o (by rwa [hG] at ho) ho'⟩
        · cases hq
    · exact h'.inv.ok q hq
  · refine h'.own b hb' ?_
    rw [hzz, cnt_append] at hcc
    have h1 := hnew b
    have : b ≠ w.heap.size := fun e => by have := h.stp.size; omega
    simp [this] at h1
    omega

theorem WExt.of_alloc (hn : ∀ b, w.heap.size ≤ b → G b = 0) (o : Obj) (n : Nat) : WExt w G (w.alloc o) (fun b => if b = w.heap.size then n else G b) := by
  refine ⟨by simp, fun b hb => ⟨?_, by simp [Nat.ne_of_lt hb]⟩, fun b hb => ?_, rfl, rfl, rfl⟩
  · show (w.heap.push o)[b]? = _
    rw [Array.getElem?_push, if_neg (by omega)]
  · simp at hb
    have : b ≠ w.heap.size := by omega
    simp [this, hn b (by omega)]
theorem WExt.of_drew (hn : ∀ b, w.heap.size ≤ b → G b = 0) : WExt w G w.drew G := ⟨Nat.le_refl _, fun _ _ => ⟨rfl, rfl⟩, hn, rfl, rfl, rfl⟩
theorem WExt.trans {w'' : World} {G'' : Gh} (h : WExt w G w' G') (k : WExt w' G' w'' G'') : WExt w G w'' G'' :=
  ⟨Nat.le_trans h.size k.size, fun b hb => ⟨(k.keep b (Nat.lt_of_lt_of_le hb h.size)).1.trans (h.keep b hb).1, (k.keep b (Nat.lt_of_lt_of_le hb h.size)).2.trans (h.keep b hb).2⟩, k.none,
    k.os.trans h.os, k.out.trans h.out, k.tape.trans h.tape⟩

theorem leafO_append (w : World) : ∀ (os : List Ob) (bs : List Nat) (o : Ob) (b : Nat), os.length = bs.length → leafO w (os ++ [o]) (bs ++ [b]) = leafO w os bs ++ leafO w [o] [b]
  | [], [], o, b, _ => by simp [leafO]
  | [], _ :: _, _, _, h => by simp at h
  | _ :: _, [], _, _, h => by simp at h
  | p :: os, q :: bs, o, b, h => by
    simp only [List.cons_append, leafO, leafO_append w os bs o b (by simpa using h), List.append_assoc]

/-- A new object comes in front: the cells of the value that stood there. -/
theorem Sim.newObj {v : V} {x : Value} (h : Sim c E w G μ (v :: env) (x :: tmps) objs) (hv : v.cells.all V.single = true) (elem : TypeId) :
    Sim c E (w.alloc (.cells x.cells elem)) (fun b => if b = w.heap.size then 0 else G b) (μ ++ [w.heap.size]) (.ref objs.length 0 :: env) (.pointer (some ⟨w.heap.size, 0, none⟩) :: tmps) (objs ++ [.cells v.cells]) := by
  have hx := WExt.of_alloc (w := w) (G := G) h.inv.none (.cells x.cells elem) 0
  have h' := h.ext hx
  have hrv := h.inv.rep 0 v x rfl rfl
  obtain ⟨hc1, hc2, hc3⟩ := cells_rep hrv hv
  have hnew : (w.alloc (.cells x.cells elem)).heap[w.heap.size]? = some (.cells x.cells elem) := by show (w.heap.push _)[w.heap.size]? = _; simp
  have hO : leafO (w.alloc (.cells x.cells elem)) objs μ = leafO w objs μ := leafO_same objs μ fun b hb => (hx.keep b (h.inv.mine b hb).1).1
  have hcat : cellsAt (w.alloc (.cells x.cells elem)) w.heap.size = x.cells.toList := by unfold cellsAt; rw [hnew]
  have hlen := h.inv.olen
  have hmore : ∀ {u : V} {y : Value}, Rep c (w.alloc (.cells x.cells elem)) (fun b => if b = w.heap.size then 0 else G b) μ u y →
      Rep c (w.alloc (.cells x.cells elem)) (fun b => if b = w.heap.size then 0 else G b) (μ ++ [w.heap.size]) u y := fun hh =>
    hh.more fun i b _ hb => by
      rw [List.getElem?_append_left (List.getElem?_eq_some_iff.1 hb).1]; exact hb
  have hleaf : zipF leaf1 v.cells x.cells.toList = leaf3 v x := by
    by_cases ha : ∃ cs, v = .agg cs
    · obtain ⟨cs, rfl⟩ := ha
      cases hrv with
      | agg cs l hl hs hr => simp [leaf3, leaf2, V.cells, Value.cells]
    · have hvc : v.cells = [v] := by cases v <;> first | rfl | exact absurd ⟨_, rfl⟩ ha
      have hsv : v.single = true := by simpa [hvc] using hv
      have hsx := single_of hrv hsv
      rw [hvc, cells_of_single hsx]
      simp only [zipF, List.append_nil]
      cases v <;> simp_all [V.single] <;> cases x <;> simp_all [leaf3, leaf2, leaf1]
  have hLO : leafO (w.alloc (.cells x.cells elem)) (objs ++ [.cells v.cells]) (μ ++ [w.heap.size]) = leafO w objs μ ++ leaf3 v x := by
    rw [leafO_append _ _ _ _ _ hlen, hO]
    simp [leafO, hcat, hleaf]
  have hzz : zipF leaf3 (v :: env) (x :: tmps) = leaf3 v x ++ zipF leaf3 env tmps := rfl
  have hzz' : zipF leaf3 (.ref objs.length 0 :: env) (.pointer (some ⟨w.heap.size, 0, none⟩) :: tmps) = zipF leaf3 env tmps := by simp [zipF, leaf3, leaf2, leaf1]
  have hold : cnt w.heap.size (zipF leaf3 (v :: env) (x :: tmps)) + cnt w.heap.size (leafO w objs μ) + μ.count w.heap.size = 0 := by
    rcases Nat.eq_zero_or_pos (cnt w.heap.size (zipF leaf3 (v :: env) (x :: tmps)) + cnt w.heap.size (leafO w objs μ) + μ.count w.heap.size) with h0 | h0
    · exact h0
    · exact absurd (h.leaf_lt h0) (Nat.lt_irrefl _)
  refine ⟨⟨by simpa using h'.inv.len, fun i u y hu hy => ?_, by simp [hlen], fun i o b ho hb => ?_, fun b => ?_, fun q hq => ?_, fun b hb => ?_, h'.inv.none⟩, h'.stp, fun b hb hcc => ?_, ?_⟩
  · cases i with
    | zero =>
      simp at hu hy; subst hu; subst hy
      exact .ref _ 0 _ (by simp [hlen])
    | succ i => exact hmore (h'.inv.rep (i + 1) u y (by simpa using hu) (by simpa using hy))
  · by_cases hi : i < objs.length
    · rw [List.getElem?_append_left hi] at ho
      rw [List.getElem?_append_left (by omega)] at hb
      have := h'.inv.obs i o b ho hb
      cases o with
      | cells cs =>
        obtain ⟨l, e, fr, h1, h2, h3, h4, h5⟩ := this
        exact ⟨l, e, fr, h1, h2, h3, h4, fun i v x hv hx => hmore (h5 i v x hv hx)⟩
      | sit s p => exact this
      | mp kd vd es => exact this
      | dead => trivial
    · have hi' : i = objs.length := by
        have := (List.getElem?_eq_some_iff.1 ho).1; simp at this; omega
      subst hi'
      rw [hlen] at hb
      simp at ho hb; subst ho; subst hb
      refine ⟨x.cells.toList, elem, (0, 0), by rw [Array.toArray_toList]; exact hnew, fun o _ => by simp, by simpa using hc1, hc2, fun i u y hu hy => ?_⟩
      exact hmore ((hc3 i u y hu hy).mono (hx.sealed h.inv.none))
  · rw [hzz', hLO, cnt_append, List.count_append]
    have h1 := h.inv.one b
    rw [hzz, cnt_append] at h1
    by_cases hb : b = w.heap.size
    · subst hb
      rw [hzz, cnt_append] at hold
      simp; omega
    · have : (w.heap.size == b) = false := by simp; exact fun e => hb e.symm
      simp [List.count_cons, this]; omega
  · rw [hzz', hLO, List.mem_append, List.mem_append] at hq
    refine h'.inv.ok q ?_
    rw [hO, hzz]
    simp only [List.mem_append]
    rcases hq with hq | hq | hq
    · exact .inl (.inr hq)
    · exact .inr hq
    · exact .inl (.inl hq)
  · rw [List.mem_append] at hb
    rcases hb with hb | hb
    · exact h'.inv.mine b hb
    · simp at hb; subst hb; simp
  · rw [hzz', hLO, cnt_append, List.count_append] at hcc
    refine h'.own b hb ?_
    rw [hO, hzz, cnt_append]
    have : (w.heap.size == b) = false := by
      have := h.stp.size
      simp; omega
    simp [List.count_cons, this] at hcc
    omega
  · obtain ⟨ν, hν⟩ := h.pre
    exact ⟨ν ++ [w.heap.size], by rw [hν]; simp⟩
end
end Go.Ev
