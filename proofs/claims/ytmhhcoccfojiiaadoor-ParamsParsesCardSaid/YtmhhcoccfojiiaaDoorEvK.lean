/- Each operation: what the plain reading says, the model does. Second part: all but calls of functions. -/
import Derived.Test.YtmhhcoccfojiiaaDoorEvJ
import Derived.Laws.Slices
import Derived.Laws.Unary
import Derived.Laws.Strings3
namespace Go.Ev

section
variable {c : Cfg} {E : Ent} {w w' : World} {G G' : Gh} {μ : List Nat} {R : Type}

theorem eval_mapArr (a : Act) (l : Array Operand) : (l.map a.eval).toList = l.toList.map a.eval := by simp

theorem fieldsOf_ty {t : TypeId} {fs : Array Field} (h : fieldsOf c t = some fs) (hc : CfgOk c) : ∃ y, c.ty t = some y ∧ y.d = .struct fs ∧ c.P.underlying t = some (.struct fs) ∧ ∀ f ∈ fs, ∃ y', c.ty f.type = some y' := by
  unfold fieldsOf at h
  split at h
  · rename_i hy
    cases h
    exact ⟨_, hy, rfl, (hc.ty _ _ hy).und, (hc.ty _ _ hy).fields fs rfl⟩
  · cases h

theorem elemOf_und {t e : TypeId} (h : elemOf c t = some e) (hc : CfgOk c) : c.P.underlying t = some (.slice e) := by
  unfold elemOf at h
  split at h
  · rename_i hy; cases h; exact (hc.ty _ _ hy).und
  · cases h
theorem isStr_und {t : TypeId} (h : isStr c t = true) (hc : CfgOk c) : c.P.underlying t = some .string := by
  unfold isStr at h
  split at h
  · rename_i hy; exact (hc.ty _ _ hy).und
  · cases h

theorem tySize_some {t : TypeId} (h : tySize c t ≠ 0) : ∃ y, c.ty t = some y ∧ y.size = tySize c t := by
  unfold tySize at h ⊢
  split at h
  · exact ⟨_, by assumption, by simp_all⟩
  · exact absurd rfl h

theorem ofCells_some {t : TypeId} {off : Nat} {cs : List V} {v : V} (h : partV c t off cs = some v) : ∃ y, c.ty t = some y := by
  unfold partV at h
  split at h
  · cases hy : c.ty t with
    | some y => exact ⟨y, rfl⟩
    | none => simp [ofCells, isAggT, tySize, hy] at h
  · cases h

/-- Cells that are read as a value of a type. -/
theorem loadVar_ok (hc : CfgOk c) {t : TypeId} {off b o0 : Nat} {cs : List V} {l : List Value} {v : V} (h : partV c t off cs = some v) (hl : l.length = cs.length) (hs : ∀ x ∈ l, single x = true)
    (hr : ∀ (i : Nat) v x, cs[i]? = some v → l[i]? = some x → Rep c w G μ v x) (hcell : ∀ (j : Nat) x, l[j]? = some x → w.cell? ⟨b, o0 + j, none⟩ = some x) :
    ∃ u y, c.ty t = some y ∧ (loadVar t ⟨b, o0 + off, none⟩).run c.P w = .ok u w ∧ Rep c w G μ v u ∧ u.cells.toList = (l.drop off).take y.size ∧ off + y.size ≤ l.length ∧
      (v.cells = (cs.drop off).take y.size) ∧ ((∃ q, u = .agg q ∧ ∃ q', v = .agg q') ∨ (single u = true ∧ y.size = 1)) := by
  obtain ⟨y, hy⟩ := ofCells_some h
  have hok := hc.ty t y hy
  have hsz : tySize c t = y.size := by simp [tySize, hy]
  obtain ⟨u, hu, hru, hcl, hle, hag, hna⟩ := partV_run hc h hl hs hr hy
  have hv : v.cells = (cs.drop off).take y.size ∧ (y.agg = true → ∃ q', v = .agg q') ∧ (y.agg = false → y.size = 1) := by
    unfold partV at h
    split at h
    · rename_i hle'
      rw [hsz] at h hle'
      unfold ofCells at h
      have hagT : isAggT c t = y.agg := by simp [isAggT, hy]
      rw [hagT] at h
      split at h
      · rename_i ha; cases h; exact ⟨rfl, fun _ => ⟨_, rfl⟩, fun h => by rw [ha] at h; cases h⟩
      · rename_i ha
        split at h
        · rename_i x hx
          cases h
          have hlen := congrArg List.length hx
          simp at hlen
          have h1 : y.size = 1 := by omega
          refine ⟨?_, fun h => absurd h ha, fun _ => h1⟩
          rw [hx]
          have hrx := hru
          by_cases hxa : ∃ q, v = .agg q
          · obtain ⟨q, rfl⟩ := hxa
            have := hna (by simpa using ha)
            cases hrx; simp [single] at this
          · cases v <;> first | rfl | exact absurd ⟨_, rfl⟩ hxa
        · cases h
    · cases h
  refine ⟨u, y, hy, ?_, hru, hcl, hle, hv.1, ?_⟩
  · simp only [loadVar, Sem.run_bind, hok.isAgg, Result.andThen_ok, Sem.run_ite]
    cases hagg : y.agg with
    | true =>
      obtain ⟨q, rfl⟩ := hag hagg
      have hq : q.toList = (l.drop off).take y.size := by simpa [Value.cells] using hcl
      have hrun := run_loadCells_list (P := c.P) w ⟨b, o0 + off, none⟩ ((l.drop off).take y.size) (fun j x hj => by
        rw [Addr.add_lit]
        rw [List.getElem?_take] at hj
        split at hj
        · rw [List.getElem?_drop] at hj
          have := hcell (off + j) x hj
          rwa [← Nat.add_assoc] at this
        · cases hj)
      have hlen : ((l.drop off).take y.size).length = y.size := by simp; omega
      rw [hlen] at hrun
      simp only [if_true, Sem.run_bind, hok.sizeOf, Result.andThen_ok, hrun, Sem.run_pure, ← hq, Array.toArray_toList]
    | false =>
      have hsu := hna hagg
      have h1 := hv.2.2 hagg
      rw [cells_of_single hsu, h1] at hcl
      have hget : l[off]? = some u := by
        have := congrArg (fun z : List Value => z[0]?) hcl
        simp only [List.getElem?_take, List.getElem?_drop] at this
        simpa using this.symm
      simp only [Bool.false_eq_true, if_false, run_load, hcell off u hget]
  · cases hagg : y.agg with
    | true =>
      obtain ⟨q, hq⟩ := hag hagg
      exact .inl ⟨q, hq, hv.2.1 hagg⟩
    | false => exact .inr ⟨hna hagg, hv.2.2 hagg⟩

theorem cutAt_length : ∀ (off n : Nat) (cs : List V), (cutAt off n cs).length = cs.length
  | 0, 0, cs => by simp [cutAt]
  | 0, n + 1, [] => rfl
  | 0, n + 1, x :: cs => by simp [cutAt, cutAt_length 0 n cs]
  | o + 1, n, [] => by cases n <;> rfl
  | o + 1, n, x :: cs => by cases n <;> simp [cutAt, cutAt_length o _ cs]

theorem cutAt_get : ∀ (off n : Nat) (cs : List V) (l : List Value), (∀ (i : Nat) v x, cs[i]? = some v → l[i]? = some x → Rep c w G μ v x) →
    ∀ (i : Nat) v x, (cutAt off n cs)[i]? = some v → l[i]? = some x → Rep c w G μ v x
  | 0, 0, cs, l, h, i, v, x, hv, hx => by simp only [cutAt] at hv; exact h i v x hv hx
  | 0, n + 1, [], l, h, i, v, x, hv, hx => by simp [cutAt] at hv
  | 0, n + 1, y :: cs, [], h, i, v, x, hv, hx => by simp at hx
  | 0, n + 1, y :: cs, Y :: l, h, i, v, x, hv, hx => by
    cases i with
    | zero => simp [cutAt] at hv hx; subst hv; subst hx; exact (h 0 _ _ rfl rfl).cut1
    | succ i =>
      simp only [cutAt, List.getElem?_cons_succ] at hv hx
      exact cutAt_get 0 n cs l (fun i v x hv hx => h (i + 1) v x (by simpa using hv) (by simpa using hx)) i v x hv hx
  | o + 1, n, [], l, h, i, v, x, hv, hx => by cases n <;> simp [cutAt] at hv
  | o + 1, n, y :: cs, [], h, i, v, x, hv, hx => by simp at hx
  | o + 1, n, y :: cs, Y :: l, h, i, v, x, hv, hx => by
    have e : cutAt (o + 1) n (y :: cs) = y :: cutAt o n cs := by cases n <;> rfl
    rw [e] at hv
    cases i with
    | zero => simp at hv hx; subst hv; subst hx; exact h 0 _ _ rfl rfl
    | succ i =>
      simp only [List.getElem?_cons_succ] at hv hx
      exact cutAt_get o n cs l (fun i v x hv hx => h (i + 1) v x (by simpa using hv) (by simpa using hx)) i v x hv hx

theorem cutAt_cnt (q : Nat) : ∀ (off n : Nat) (cs : List V) (l : List Value), off + n ≤ cs.length → cs.length = l.length →
    cnt q (zipF leaf1 (cutAt off n cs) l) + cnt q (zipF leaf1 ((cs.drop off).take n) ((l.drop off).take n)) ≤ cnt q (zipF leaf1 cs l)
  | 0, 0, cs, l, _, _ => by simp [cutAt, zipF, cnt]
  | 0, n + 1, [], l, h, _ => by simp at h
  | 0, n + 1, y :: cs, [], _, h => by simp at h
  | 0, n + 1, y :: cs, Y :: l, h, h' => by
    have := cutAt_cnt q 0 n cs l (by simpa using h) (by simpa using h')
    simp only [List.drop_zero] at this
    simp only [cutAt, List.drop_zero, List.take_succ_cons, zipF, cnt_append, leaf1_cut1, cnt_nil]
    omega
  | o + 1, n, [], l, h, _ => by simp at h
  | o + 1, n, y :: cs, [], _, h => by simp at h
  | o + 1, n, y :: cs, Y :: l, h, h' => by
    have := cutAt_cnt q o n cs l (by simp at h; omega) (by simpa using h')
    have e : cutAt (o + 1) n (y :: cs) = y :: cutAt o n cs := by cases n <;> rfl
    simp only [e, List.drop_succ_cons, zipF, cnt_append]
    omega
theorem cutAt_mem {q : Leaf} : ∀ (off n : Nat) (cs : List V) (l : List Value), q ∈ zipF leaf1 (cutAt off n cs) l → q ∈ zipF leaf1 cs l
  | 0, 0, cs, l, h => by simpa [cutAt] using h
  | 0, n + 1, [], l, h => by simp [cutAt, zipF] at h
  | 0, n + 1, y :: cs, [], h => by simp [zipF] at h
  | 0, n + 1, y :: cs, Y :: l, h => by
    simp only [cutAt, zipF, leaf1_cut1, List.nil_append, List.mem_append] at h ⊢
    exact .inr (cutAt_mem 0 n cs l h)
  | o + 1, n, [], l, h => by cases n <;> simp [cutAt, zipF] at h
  | o + 1, n, y :: cs, [], h => by simp [zipF] at h
  | o + 1, n, y :: cs, Y :: l, h => by
    have e : cutAt (o + 1) n (y :: cs) = y :: cutAt o n cs := by cases n <;> rfl
    simp only [e, zipF, List.mem_append] at h ⊢
    exact h.imp id (cutAt_mem o n cs l)

theorem zipF_part_mem {q : Leaf} : ∀ (off n : Nat) (cs : List V) (l : List Value), q ∈ zipF leaf1 ((cs.drop off).take n) ((l.drop off).take n) → q ∈ zipF leaf1 cs l := by
  intro off n cs l h
  refine zipF_drop_mem leaf1 off cs l ?_
  generalize cs.drop off = cs at *
  generalize l.drop off = l at *
  induction n generalizing cs l with
  | zero => simp [zipF] at h
  | succ n ih =>
    cases cs with
    | nil => simp [zipF] at h
    | cons y cs => cases l with
      | nil => simp [zipF] at h
      | cons Y l =>
        simp only [List.take_succ_cons, zipF, List.mem_append] at h ⊢
        exact h.imp id (ih cs l)

/-- A part of an object comes in front, with the right to append to what is there. -/
theorem Sim.takeOb {env : List V} {tmps : List Value} {objs : List Ob} (h : Sim c E w G μ env tmps objs) {i b off n : Nat} {cs : List V} {v : V} {u : Value} {l : List Value} (ho : objs[i]? = some (.cells cs)) (hb : μ[i]? = some b)
    (hcat : cellsAt w b = l) (hll : l.length = cs.length) (hle : off + n ≤ cs.length) (hr : Rep c w G μ v u) (hvc : v.cells = (cs.drop off).take n) (huc : u.cells.toList = (l.drop off).take n)
    (hlf : zipF leaf1 v.cells u.cells.toList = leaf3 v u) : Sim c E w G μ (v :: env) (u :: tmps) (objs.set i (.cells (cutAt off n cs))) := by
  have hzz : zipF leaf3 (v :: env) (u :: tmps) = leaf3 v u ++ zipF leaf3 env tmps := rfl
  obtain ⟨l', elem, fr, h1, h2, h3, h4, h5⟩ := h.inv.obs i _ b ho hb
  have hl' : l' = l := by rw [← hcat]; unfold cellsAt; rw [h1]
  subst hl'
  refine h.reob (w' := w) (o' := .cells (cutAt off n cs)) ho hb (fun _ _ => rfl) rfl rfl rfl rfl (by simpa using h.inv.len) (fun j p y hp hy => ?_) ?_ (fun q => ?_) (fun q hq => ?_)
  · cases j with
    | zero => simp at hp hy; subst hp; subst hy; exact hr
    | succ j => exact h.inv.rep j p y (by simpa using hp) (by simpa using hy)
  · exact ⟨l', elem, fr, h1, h2, by rw [h3, cutAt_length], h4, cutAt_get off n cs l' h5⟩
  · simp only [leafOb, hcat, hzz, cnt_append]
    have := cutAt_cnt q off n cs l' hle hll.symm
    rw [← hvc, ← huc, hlf] at this
    omega
  · simp only [leafOb, hcat, hzz, List.mem_append] at hq ⊢
    rcases hq with (hq | hq) | hq
    · rw [← hlf, hvc, huc] at hq
      exact .inr (zipF_part_mem off n cs l' hq)
    · exact .inl hq
    · exact .inr (cutAt_mem off n cs l' hq)

theorem nil_clo {v : V} {x : Value} (hv : v.tips = false) : leaf3 v x = [] := leaf3_nil_of_tips x hv

theorem St.ob_get {S : St} {i : Nat} {cs : List V} (h : S.ob i = .cells cs) : S.objs[i]? = some (.cells cs) := by
  unfold St.ob at h
  simp only [List.getD] at h
  cases hi : S.objs[i]? with
  | none => simp [hi] at h
  | some o => simp [hi] at h; rw [h]

theorem μ_get {S : St} {a : Act} (h : SimS c E w G μ S a) {i : Nat} {o : Ob} (ho : S.objs[i]? = some o) : ∃ b, μ[i]? = some b := by
  have h1 := (List.getElem?_eq_some_iff.1 ho).1
  rw [h.inv.olen] at h1
  exact ⟨_, List.getElem?_eq_getElem h1⟩

theorem int_of {v : V} {x : Value} {k : IntKind} {n : Int} (h : Rep c w G μ v x) (hv : v = .int k n) : x = .int k n := by subst hv; cases h; rfl

theorem bool_of {v : V} {x : Value} {b : Bool} (h : Rep c w G μ v x) (hv : v = .bool b) : x = .bool b := by subst hv; cases h; rfl
theorem str_of {v : V} {x : Value} {s : List UInt8} (h : Rep c w G μ v x) (hv : v = .str s) : x = .string ⟨s.toArray⟩ := by subst hv; cases h; rfl

theorem byte_fits {e : TypeId} (hc : CfgOk c) (h : isByte c e = true) {v : V} (hv : fitsE c e v = true) : ∃ n, v = .int .u8 n := by
  unfold isByte at h
  split at h
  · rename_i d size bytes agg zero eq hy
    have hag : agg = false := by have := (hc.ty _ _ hy).agg; simpa [isAggD] using this
    subst hag
    simp only [fitsE, hy, RSh.fits, Bool.false_eq_true, if_false, fitsCells, Bool.and_eq_true] at hv
    have hv := hv.1
    cases v with
    | int k n =>
      have : IntKind.u8 = k := eq_of_beq hv
      subst this; exact ⟨n, rfl⟩
    | _ => simp [CSh.fits] at hv
  · cases h

theorem bytes_foldl : ∀ (ns : List Int) (s : ByteArray), ns.foldl (fun r n => r.push (UInt8.ofNat n.toNat)) s = ⟨(s.data.toList ++ ns.map fun n => UInt8.ofNat n.toNat).toArray⟩
  | [], s => by simp
  | n :: ns, s => by
    rw [List.foldl_cons, bytes_foldl ns]
    congr 1
    simp [ByteArray.push]

theorem bytes_run (hc : CfgOk c) {e : TypeId} (he : isByte c e = true) {tp : Bool} {xs : List V} {X : Value} (h : Rep c w G μ (.lst e tp xs) X) :
    (Conv.bytesToString X).run c.P w = .ok (.string ⟨(bytesOf xs).toArray⟩) w ∧ ∃ a n m, X = .slice a n m := by
  cases h with
  | lst _ _ _ a m l hl hr hf hs hz hcap ha hrow =>
  refine ⟨?_, _, _, _, rfl⟩
  have hl2 : l = (xs.map V.getI).map (Value.int .u8) := by
    apply List.ext_getElem?
    intro i
    by_cases hi : i < xs.length
    · obtain ⟨n, hn⟩ := byte_fits hc he (hf xs[i] (List.getElem_mem hi))
      have hrx := hr i xs[i] l[i] (List.getElem?_eq_getElem hi) (List.getElem?_eq_getElem (by omega))
      have := int_of hrx hn
      rw [List.getElem?_eq_getElem (show i < l.length by omega), this]
      simp [List.getElem?_eq_getElem hi, hn, V.getI]
    · rw [List.getElem?_eq_none (by omega), List.getElem?_eq_none (by simp; omega)]
  have hfl : flat l = l := by
    rw [hl2]
    generalize xs.map V.getI = ns
    induction ns with
    | nil => rfl
    | cons n ns ih => simp only [flat, List.map_cons, List.flatMap_cons, Value.cells] at ih ⊢; rw [ih]; rfl
  have hres : (xs.map V.getI).foldl (fun r n => r.push (UInt8.ofNat n.toNat)) ByteArray.empty = ⟨(bytesOf xs).toArray⟩ := by
    rw [bytes_foldl]
    show (⟨([] ++ _).toArray⟩ : ByteArray) = _
    simp [bytesOf, Function.comp_def]
  cases a with
  | none =>
    have := ha rfl
    have h0 : xs = [] := List.eq_nil_of_length_eq_zero (by omega)
    subst h0
    rfl
  | some p =>
    rw [← hres]
    refine run_bytesToString w p xs.length m _ ?_
    by_cases hne : xs = []
    · subst hne; simp [loadCells, loadCellsFrom]
    · obtain ⟨hsp, hrw⟩ := hrow p rfl hne
      obtain ⟨pb, po, ps⟩ := p
      simp only at hsp; subst hsp
      rw [hfl] at hrw
      have := run_loadCells_list (P := c.P) w ⟨pb, po, none⟩ l (fun j v hj => by rw [Addr.add_lit]; exact (hrw j v hj).1)
      rw [hl] at this
      rw [this, hl2]

theorem part_get {α : Type} {l : List α} {i off n : Nat} {x : α} (h : ((l.drop off).take n)[i]? = some x) : l[off + i]? = some x := by
  rw [List.getElem?_take] at h
  split at h
  · rwa [List.getElem?_drop] at h
  · cases h

theorem leaf3_part {v : V} {u : Value} (hr : Rep c w G μ v u) (h : (∃ q, u = .agg q ∧ ∃ q', v = .agg q') ∨ (single u = true ∧ ∃ z, v.cells = [z])) : zipF leaf1 v.cells u.cells.toList = leaf3 v u := by
  rcases h with ⟨q, rfl, q', rfl⟩ | ⟨hs, z, hz⟩
  · simp [leaf3, leaf2, V.cells, Value.cells]
  · rw [cells_of_single hs, hz]
    simp only [zipF, List.append_nil]
    by_cases ha : ∃ cs, v = .agg cs
    · obtain ⟨cs, rfl⟩ := ha
      cases hr; simp [single] at hs
    · have : z = v := by
        have hvc : v.cells = [v] := by cases v <;> first | rfl | exact absurd ⟨_, rfl⟩ ha
        rw [hvc] at hz; simpa using hz.symm
      subst this
      by_cases ht : ∃ cs, z = .tup cs
      · obtain ⟨cs, rfl⟩ := ht
        cases hr; simp [single] at hs
      · cases z <;> first | exact absurd ⟨_, rfl⟩ ha | exact absurd ⟨_, rfl⟩ ht | skip
        all_goals (cases u <;> rfl)

theorem ref_of {v : V} {x : Value} {i off : Nat} (h : Rep c w G μ v x) (hv : v = .ref i off) : ∃ b, μ[i]? = some b ∧ x = .pointer (some ⟨b, off, none⟩) := by
  subst hv; cases h with | ref _ _ b hb => exact ⟨b, hb, rfl⟩
theorem cpt_of {v : V} {x : Value} {cs : List V} (h : Rep c w G μ v x) (hv : v = .cpt cs) : ∃ b off l, x = .pointer (some ⟨b, off, none⟩) ∧ l.length = cs.length ∧ (∀ y ∈ l, single y = true) ∧
    (∀ (i : Nat) v x, cs[i]? = some v → l[i]? = some x → Rep c w G [] v x) ∧ SRow w G b off l := by
  subst hv; cases h with | cpt _ b off l hl hs hr hrow => exact ⟨b, off, l, rfl, hl, hs, hr, hrow⟩
theorem agg_of {v : V} {x : Value} {cs : List V} (h : Rep c w G μ v x) (hv : v = .agg cs) : ∃ l : List Value, x = .agg l.toArray ∧ l.length = cs.length ∧ (∀ y ∈ l, single y = true) ∧
    (∀ (i : Nat) v x, cs[i]? = some v → l[i]? = some x → Rep c w G μ v x) := by
  subst hv; cases h with | agg _ l hl hs hr => exact ⟨l, rfl, hl, hs, hr⟩
theorem tup_of {v : V} {x : Value} {cs : List V} (h : Rep c w G μ v x) (hv : v = .tup cs) : ∃ l : List Value, x = .tuple l.toArray ∧ l.length = cs.length ∧
    (∀ (i : Nat) v x, cs[i]? = some v → l[i]? = some x → Rep c w G μ v x) := by
  subst hv; cases h with | tup _ l hl hr => exact ⟨l, rfl, hl, hr⟩
theorem lst_of {v : V} {x : Value} {e : TypeId} {t : Bool} {xs : List V} (h : Rep c w G μ v x) (hv : v = .lst e t xs) : ∃ (a : Option Addr) (m : Nat) (l : List Value), x = .slice a xs.length m ∧ l.length = xs.length ∧
    (∀ (i : Nat) v x, xs[i]? = some v → l[i]? = some x → Rep c w G [] v x) ∧ (∀ v ∈ xs, fitsE c e v = true) ∧ (∀ x ∈ l, x.cells.size = tySize c e) ∧ 0 < tySize c e ∧ xs.length ≤ m ∧ (a = none → m = 0) ∧
    (∀ p, a = some p → xs ≠ [] → p.spot = none ∧ SRow w G p.block p.off (flat l)) := by
  subst hv; cases h with | lst _ _ _ a m l hl hr hf hs hz hc ha hrow => exact ⟨a, m, l, rfl, hl, hr, hf, hs, hz, hc, ha, hrow⟩

theorem chunks_ok (hc : CfgOk c) {e : TypeId} {y : Ty} (hy : c.ty e = some y) : ∀ (n : Nat) (cs : List V) (l : List Value) (xs : List V), chunksV c e n cs = some xs → l.length = cs.length → (∀ x ∈ l, single x = true) →
    (∀ (i : Nat) v x, cs[i]? = some v → l[i]? = some x → Rep c w G μ v x) →
    ∃ L : List Value, L.length = xs.length ∧ xs.length = n ∧ (∀ (i : Nat) v x, xs[i]? = some v → L[i]? = some x → Rep c w G μ v x) ∧ (∀ x ∈ L, x.cells.size = y.size) ∧ flat L = l
  | 0, cs, l, xs, h, hl, _, _ => by
    cases cs with
    | nil =>
      simp [chunksV] at h; subst h
      have : l = [] := List.eq_nil_of_length_eq_zero (by simpa using hl)
      subst this
      exact ⟨[], rfl, rfl, by simp, by simp, rfl⟩
    | cons a b => simp [chunksV] at h
  | n + 1, cs, l, xs, h, hl, hs, hr => by
    simp only [chunksV] at h
    split at h
    · rename_i v r hv hrr
      cases h
      have hsz : tySize c e = y.size := by simp [tySize, hy]
      obtain ⟨u, _, hru, hcl, hle, _⟩ := partV_run hc hv hl hs hr hy
      simp only [List.drop_zero, Nat.zero_add] at hcl hle
      rw [hsz] at hrr
      obtain ⟨L, g1, g2, g3, g4, g5⟩ := chunks_ok hc hy n (cs.drop y.size) (l.drop y.size) r hrr (by simp [hl]) (fun x hx => hs x (List.mem_of_mem_drop hx)) (fun i p q hp hq => by
        rw [List.getElem?_drop] at hp hq; exact hr _ p q hp hq)
      refine ⟨u :: L, by simp [g1], by simp [g2], fun i p q hp hq => ?_, fun q hq => ?_, ?_⟩
      · cases i with
        | zero => simp at hp hq; subst hp; subst hq; exact hru
        | succ i => exact g3 i p q (by simpa using hp) (by simpa using hq)
      · rcases List.mem_cons.1 hq with rfl | hq
        · have := congrArg List.length hcl
          simp at this; omega
        · exact g4 q hq
      · simp only [flat, List.flatMap_cons] at g5 ⊢
        rw [g5, hcl, List.take_append_drop]
    · cases h

theorem flatten_replicate_get {α : Type} [Inhabited α] (n : Nat) (l : List α) : (List.replicate n l).flatten = (List.range (n * l.length)).map fun i => l[i % l.length]! := by
  by_cases h0 : l.length = 0
  · have : l = [] := List.eq_nil_of_length_eq_zero h0
    subst this; simp
  induction n with
  | zero => simp
  | succ n ih =>
    rw [List.replicate_succ', List.flatten_append, ih, List.flatten_cons, List.flatten_nil, List.append_nil, Nat.succ_mul, List.range_add, List.map_append]
    congr 1
    apply List.ext_getElem?
    intro i
    by_cases hi : i < l.length
    · simp [List.getElem?_eq_getElem hi, hi, Nat.mod_eq_of_lt hi]
    · rw [List.getElem?_eq_none (by omega), List.getElem?_eq_none (by simp; omega)]

theorem zcells_rep (hc : CfgOk c) {e : TypeId} {y : Ty} (hy : c.ty e = some y) (w : World) (G : Gh) (μ : List Nat) (n : Nat) {z : Value} (hzf : zfits c y.zero z.cells.toList = true) :
    let CS := (List.replicate n z.cells.toList).flatten
    let cs := (List.replicate n (y.zero.map V.cut1)).flatten
    CS.length = cs.length ∧ (∀ x ∈ CS, single x = true) ∧ (∀ (i : Nat) v x, cs[i]? = some v → CS[i]? = some x → Rep c w G μ v x) ∧ zipF leaf1 cs CS = [] := by
  obtain ⟨g1, g2, g3, g4⟩ := zfits_rep y.zero z.cells.toList hzf w G μ
  induction n with
  | zero => simp [zipF]
  | succ n ih =>
    obtain ⟨i1, i2, i3, i4⟩ := ih
    simp only [List.replicate_succ, List.flatten_cons]
    refine ⟨by simp only [List.length_append, List.length_map, g1, i1], fun x hx => ?_, fun i v x hv hx => ?_, ?_⟩
    · rw [List.mem_append] at hx; exact hx.elim (g2 x) (i2 x)
    · by_cases hi : i < y.zero.length
      · rw [List.getElem?_append_left (by simpa using hi)] at hv
        rw [List.getElem?_append_left (by omega)] at hx
        obtain ⟨v0, hv0, rfl⟩ := get_map hv
        exact (g3 i v0 x hv0 hx).cut1
      · rw [List.getElem?_append_right (by simp; omega)] at hv
        rw [List.getElem?_append_right (by omega)] at hx
        simp only [List.length_map] at hv
        rw [g1] at hx
        exact i3 _ v x hv hx
    · rw [zipF_append leaf1 _ _ _ _ (by simp [g1]), i4, zipF_map leaf1 V.cut1 leaf1_cut1]; rfl

theorem fills_nil {cs : List V} {l : List Value} : zipF leaf1 cs l = zipF leaf1 cs l := rfl

theorem buildSlice_ok (hc : CfgOk c) {S : St} {a : Act} (hS : SimS c E w G μ S a) {t e : TypeId} (he : elemOf c t = some e) {n : Nat} {parts : Array (Nat × Operand)} {xs : List V}
    (hxs : (sliceCells c e n (parts.toList.map fun p => (p.1, (opd c S e p.2).cut))).bind (chunksV c e n) = some xs)
    (hall : ∀ x ∈ xs, fitsE c e x = true) (href : V.refsL xs = []) (hsmall : n * tySize c e ≤ 16777216) (hz0 : 0 < tySize c e)
    {K : V → St → Option R} {r : R} (hk : K (.lst e true xs) S = some r) {o : Oper} (ho : o.op = .buildSlice t n parts) :
    ∃ u w', (execOp a.eval o).run c.P w = .ok (.value u) w' ∧ Went c E K r a.tmps.toList u w' := by
  obtain ⟨y, hy, hysz⟩ := tySize_some (c := c) (t := e) (by omega)
  have hok := hc.ty e y hy
  have hund := elemOf_und he hc
  obtain ⟨cells, hcells, hch⟩ := Option.bind_eq_some_iff.1 hxs
  unfold sliceCells at hcells
  rw [hy] at hcells
  simp only at hcells
  obtain ⟨z, hz, hzf, hza⟩ := hok.zero w
  obtain ⟨g1, g2, g3, g4⟩ := zcells_rep hc hy w G μ n hzf
  have hzl : z.cells.toList.length = y.size := by rw [(zfits_rep y.zero _ hzf w G μ).1, hok.size]
  generalize hps : (parts.toList.map fun p => (p.1, (opd c S e p.2).cut)) = ps at hcells
  have hpp : ∀ (i : Nat) p q, ps[i]? = some p → ((parts.map fun (i, x) => (i, a.eval x)).toList)[i]? = some q → p.1 = q.1 ∧ Rep c w G μ p.2 q.2 := by
    intro i p q hp hq
    rw [← hps] at hp
    obtain ⟨p0, h0, rfl⟩ := get_map hp
    simp only [Array.toList_map] at hq
    obtain ⟨q0, h1, rfl⟩ := get_map hq
    rw [h0] at h1; cases h1
    exact ⟨rfl, (opd_rep hS _ _).cut⟩
  have hpl : ps.length = (parts.map fun (i, x) => (i, a.eval x)).toList.length := by rw [← hps]; simp
  obtain ⟨CS', f1, f2, f3, f4, f5⟩ := fill_ok (c := c) (w := w) (G := G) (μ := μ) _ ps _ _ cells (List.replicate n z.cells.toList).flatten.toArray hpl hpp (by simpa using g1) (by simpa using g2) (by simpa using g3) hcells
  obtain ⟨L, l1, l2, l3, l4, l5⟩ := chunks_ok hc hy n cells CS'.toList xs hch f2 f3 f4
  have hinit : (Array.range (n * y.size)).map (fun i => z.cells[i % z.cells.size]!) = (List.replicate n z.cells.toList).flatten.toArray := by
    apply Array.ext'
    rw [flatten_replicate_get]
    simp only [Array.toList_map, Array.toList_range, hzl, List.toList_toArray]
    have hzs : z.cells.size = y.size := by simpa using hzl
    simp only [hzs]
    apply List.map_congr_left
    intro i _
    simp only [List.getElem!_eq_getElem?_getD, Array.getElem!_eq_getD, Array.getD_eq_getD_getElem?, Array.getElem?_toList]
  have hpos : 0 < y.size := by omega
  have hnot : ¬ (n * y.size > 2 ^ 24) := by rw [hysz]; omega
  have hrun : (execOp a.eval o).run c.P w = .ok (.value (.slice (some ⟨w.heap.size, 0, none⟩) n n)) (w.alloc (.cells CS' e)) := by
    rw [← hysz] at f1
    have hzr : (if n * y.size = 0 then (Pure.pure #[] : Sem (Array Value)) else do Pure.pure (← zeroValue e).cells).run c.P w = .ok (if n * y.size = 0 then #[] else z.cells) w := by
      split <;> simp [hz]
    have hinit2 : (Array.range (n * y.size)).map (fun i => (if n * y.size = 0 then #[] else z.cells)[i % (if n * y.size = 0 then #[] else z.cells).size]!) = (List.replicate n z.cells.toList).flatten.toArray := by
      rw [← hinit]
      by_cases h0 : n * y.size = 0
      · rw [h0]
        apply Array.ext
        · simp
        · intro i h1 h2; simp at h1
      · simp only [if_neg h0]
    simp only [execOp, ho, Instr.buildSlice, Sem.run_bind, run_underlying hund, Result.andThen_ok, hok.sizeOf, Sem.run_ite, if_neg hnot, Sem.run_pure]
    simp only [Sem.run_ite, Sem.run_bind, hz, Result.andThen_ok, Sem.run_pure] at hzr ⊢
    split
    · rename_i h0
      rw [if_pos h0] at hinit2
      simp only [Result.andThen_ok, hinit2, f1, Sem.run_bind, newRow, run_newObj, Sem.run_pure]
      rfl
    · rename_i h0
      rw [if_neg h0] at hinit2
      simp only [Result.andThen_ok, hinit2, f1, Sem.run_bind, newRow, run_newObj, Sem.run_pure]
      rfl
  have hx := WExt.of_alloc (w := w) (G := G) hS.inv.none (.cells CS' e) (flat L).length
  have hseal := hx.sealed hS.inv.none
  have hfl : (flat L).length = xs.length * tySize c e := by rw [flat_length L l4, l1, hysz]
  have hnr : ∀ (i : Nat) v, xs[i]? = some v → v.refs = [] := by
    intro i v hv
    refine List.eq_nil_iff_forall_not_mem.2 fun k hk => ?_
    have : ∀ (cs : List V) (i : Nat), cs[i]? = some v → k ∈ V.refsL cs := by
      intro cs
      induction cs with
      | nil => intro i h; simp at h
      | cons b cs ih =>
        intro i h
        simp only [V.refsL, List.mem_append]
        cases i with
        | zero => simp at h; subst h; exact .inl hk
        | succ i => exact .inr (ih i (by simpa using h))
    have := this xs i hv
    rw [href] at this; cases this
  have hs := hS.newList hx (e := e) (t := true) (xs := xs) (l := L) (cap := n) (cs := CS') (elem := e) (fr := (0, 0))
    (by show (w.heap.push _)[w.heap.size]? = _; simp) (by simp) (fun j q hq => by rw [l5] at hq; simpa using hq) l1
    (fun i v x hv hxx => ((l3 i v x hv hxx).mono hseal).more fun k b hk _ => by rw [hnr i v hv] at hk; cases hk)
    hall (fun q hq => by rw [l4 q hq, hysz]) hz0 (by omega) (by
      have h9 := congrArg List.length l5
      rw [hfl, l2] at h9
      simpa using Nat.le_of_eq h9) (fun o _ _ => by simp) hfl
  rw [l2] at hs
  exact ⟨_, _, hrun, _, S, _, μ, hk, hs⟩

theorem CSh.eta_of {s : CSh} {v : V} (h : s.fits v = true) : s.eta v = v ∧ v.single = true := by
  cases s <;> cases v <;> simp_all [CSh.fits, CSh.eta, V.getB, V.getI, V.getS, V.getL, V.single]

theorem etaCells_of : ∀ (sh : List CSh) (cs : List V), fitsCells sh cs = true → etaCells sh cs = cs ∧ cs.all V.single = true
  | [], [], _ => ⟨rfl, rfl⟩
  | [], _ :: _, h => by simp [fitsCells] at h
  | _ :: _, [], h => by simp [fitsCells] at h
  | s :: r, v :: cs, h => by
    simp only [fitsCells, Bool.and_eq_true] at h
    obtain ⟨h1, h2⟩ := CSh.eta_of h.1
    obtain ⟨h3, h4⟩ := etaCells_of r cs h.2
    simp [etaCells, h1, h2, h3, h4]

theorem RSh.eta_of {s : RSh} {v : V} (h : s.fits v = true) : s.eta v = v ∧ v.cells.all V.single = true := by
  unfold RSh.fits at h
  unfold RSh.eta
  split at h
  · rename_i ha
    split at h
    · rename_i cs
      obtain ⟨h1, h2⟩ := etaCells_of _ _ h
      rw [if_pos ha]
      exact ⟨by simp only [V.cells, h1], h2⟩
    · cases h
  · rename_i ha
    obtain ⟨h1, h2⟩ := etaCells_of _ _ h
    rw [if_neg ha, h1]
    have hs : v.single = true := by simpa using h2
    have hv : v.cells = [v] := by cases v <;> first | rfl | simp [V.single] at hs
    exact ⟨rfl, by rw [hv]; exact h2⟩

theorem fitsE_of {e : TypeId} {v : V} (h : fitsE c e v = true) : etaE c e v = v ∧ v.cells.all V.single = true := by
  unfold fitsE at h
  unfold etaE
  split at h
  · rename_i y hy
    exact RSh.eta_of h
  · cases h

theorem flat_part {s : Nat} {l : List Value} (h : ∀ x ∈ l, x.cells.size = s) {k m : Nat} (j : Nat) (z : Value) (hj : (flat ((l.take m).drop k))[j]? = some z) : (flat l)[k * s + j]? = some z := by
  by_cases hk : k ≤ (l.take m).length
  · have e1 : flat l = flat (l.take m) ++ flat (l.drop m) := by rw [← flat_append, List.take_append_drop]
    have e2 : flat (l.take m) = flat ((l.take m).take k) ++ flat ((l.take m).drop k) := by rw [← flat_append, List.take_append_drop]
    have e3 : (flat ((l.take m).take k)).length = k * s := by
      rw [flat_length (size := s) _ (fun x hx => h x (List.mem_of_mem_take (List.mem_of_mem_take hx)))]
      rw [List.length_take, Nat.min_eq_left hk]
    have hj2 := (List.getElem?_eq_some_iff.1 hj).1
    rw [e1, e2, List.append_assoc, List.getElem?_append_right (by omega), e3, List.getElem?_append_left (by omega)]
    rw [show k * s + j - k * s = j by omega]
    exact hj
  · rw [List.drop_eq_nil_of_le (by omega)] at hj
    simp [flat] at hj

theorem lst_sliced {e : TypeId} {tp : Bool} {xs : List V} {X : Value} (hr : Rep c w G μ (.lst e tp xs) X) {l h : Nat} (hlh : l ≤ h) (hh : h ≤ xs.length) :
    ∃ (a : Option Addr) (m : Nat), X = .slice a xs.length m ∧ xs.length ≤ m ∧ Rep c w G μ (.lst e false ((xs.take h).drop l)) (sliced a l h m (tySize c e)) := by
  obtain ⟨a, m, L, hx, hl, hr, hf, hs, hz, hcap, ha, hrow⟩ := lst_of hr rfl
  refine ⟨a, m, hx, hcap, ?_⟩
  have hlen : h - l = ((xs.take h).drop l).length := by simp; omega
  unfold sliced
  rw [hlen]
  have hget : ∀ {α : Type} (q : List α) (i : Nat) (z : α), ((q.take h).drop l)[i]? = some z → q[l + i]? = some z := by
    intro α q i z hz
    rw [List.getElem?_drop, List.getElem?_take] at hz
    split at hz
    · exact hz
    · cases hz
  refine Rep.lst e false _ _ _ ((L.take h).drop l) (by simp; omega) (fun i v x hv hx => hr (l + i) v x (hget _ _ _ hv) (hget _ _ _ hx)) (fun v hv => hf v (List.mem_of_mem_take (List.mem_of_mem_drop hv)))
    (fun x hx => hs x (List.mem_of_mem_take (List.mem_of_mem_drop hx))) hz (by rw [← hlen]; omega) (fun h0 => ?_) (fun p hp hne => ?_)
  · split at h0
    · omega
    · cases a with
      | none => have := ha rfl; omega
      | some p => simp at h0
  · have hne' : xs ≠ [] := by intro h0; subst h0; simp at hne
    have hlt : l < h := by
      have : ((xs.take h).drop l).length ≠ 0 := by intro h0; exact hne (List.eq_nil_of_length_eq_zero h0)
      omega
    rw [if_neg (by omega)] at hp
    cases a with
    | none => simp at hp
    | some p0 =>
      simp at hp
      obtain ⟨h1, h2⟩ := hrow p0 rfl hne'
      obtain ⟨pb, po, ps⟩ := p0
      simp only at h1; subst h1
      rw [Addr.add_lit] at hp
      subst hp
      refine ⟨rfl, fun j z hj => ?_⟩
      have := h2 _ z (flat_part hs j z hj)
      simp only at this ⊢
      rwa [Nat.add_assoc]

theorem mk_extract (s : List UInt8) (l h : Nat) : (⟨s.toArray⟩ : ByteArray).extract l h = ⟨((s.take h).drop l).toArray⟩ := by
  rw [Go.ByteArray.extract_mk, List.drop_take]

theorem sliceV_ok (hc : CfgOk c) {t : TypeId} {x : V} {X : Value} {lo hi mx : Option Operand} {f : Operand → V} {F : Operand → Value} (hf : ∀ o, Rep c w G μ (f o) (F o)) (hx : Rep c w G μ x X)
    (hok : sliceOk c t x = true) (hlo : intB (lo.map f) = true) (hhi : intB (hi.map f) = true) {K : V → Option R} {r : R} (h : sliceV x (lo.map f) (hi.map f) (mx.map f) K = some r) :
    ∃ v u, K v = some r ∧ (Instr.sliceAt t X (lo.map F) (hi.map F) (mx.map F)).run c.P w = .ok u w ∧ Rep c w G μ v u ∧ v.tips = false := by
  have hint : ∀ o : Operand, intB (some (f o)) = true → ∃ k n, f o = .int k n ∧ F o = .int k n := by
    intro o ho
    cases hfo : f o with
    | int k n => exact ⟨k, n, rfl, int_of (hf o) hfo⟩
    | _ => rw [hfo] at ho; cases ho
  cases mx with
  | some o => cases x <;> simp [sliceV] at h
  | none =>
    unfold sliceOk at hok
    split at hok
    · rename_i s
      have hu := isStr_und hok hc
      have hX := str_of hx rfl
      subst hX
      have hsz : (⟨s.toArray⟩ : ByteArray).size = s.length := by simp [ByteArray.size]
      simp only [Option.map_none]
      rw [run_sliceAt_string w t _ _ _ _ hu]
      cases lo with
      | none =>
        cases hi with
        | none =>
          simp only [sliceV, Option.map_none] at h
          obtain ⟨_, h⟩ := chk_some h
          obtain ⟨_, h⟩ := chk_some h
          refine ⟨_, _, h, run_slice_string_all w t _ hu, ?_, rfl⟩
          rw [mk_extract, hsz]
          simpa using Rep.str s
        | some o =>
          obtain ⟨k, n, h1, h2⟩ := hint o hhi
          simp only [sliceV, Option.map_none, Option.map_some, h1, V.getI] at h
          obtain ⟨g1, h⟩ := chk_some h
          obtain ⟨g2, h⟩ := chk_some h
          obtain ⟨g3, h⟩ := chk_some h
          obtain ⟨g4, h⟩ := chk_some h
          have g1 := of_decide_eq_true g1
          have g2 := of_decide_eq_true g2
          have g3 := of_decide_eq_true g3
          have g4 := of_decide_eq_true g4
          simp only [Option.map_some, Option.map_none, h2]
          refine ⟨_, _, h, run_slice_string_h w t _ hu k n g1 (by rw [hsz]; exact g2), ?_, rfl⟩
          rw [mk_extract]
          exact Rep.str _
      | some ol =>
        obtain ⟨k, n, h1, h2⟩ := hint ol hlo
        cases hi with
        | none =>
          simp only [sliceV, Option.map_none, Option.map_some, h1, V.getI] at h
          obtain ⟨g1, h⟩ := chk_some h
          obtain ⟨g2, h⟩ := chk_some h
          have g1 := of_decide_eq_true g1
          have g2 := of_decide_eq_true g2
          simp only [Option.map_some, Option.map_none, h2]
          refine ⟨_, _, h, run_slice_string_l w t _ hu k n g1 (by rw [hsz]; exact g2), ?_, rfl⟩
          rw [mk_extract, hsz]
          simpa using Rep.str (s.drop n.toNat)
        | some oh =>
          obtain ⟨k', n', h1', h2'⟩ := hint oh hhi
          simp only [sliceV, Option.map_none, Option.map_some, h1, h1', V.getI] at h
          obtain ⟨g1, h⟩ := chk_some h
          obtain ⟨g2, h⟩ := chk_some h
          obtain ⟨g3, h⟩ := chk_some h
          obtain ⟨g4, h⟩ := chk_some h
          have g1 := of_decide_eq_true g1
          have g2 := of_decide_eq_true g2
          have g3 := of_decide_eq_true g3
          have g4 := of_decide_eq_true g4
          simp only [Option.map_some, Option.map_none, h2, h2']
          refine ⟨_, _, h, run_slice_string w t _ k k' n n' hu g3 g4 (by rw [hsz]; exact g2), ?_, rfl⟩
          rw [mk_extract]
          exact Rep.str _
    · rename_i e tp xs
      have hel : elemOf c t = some e := by simpa using hok
      have hu := elemOf_und hel hc
      have hpe : c.P.elem t = e := by simp [Program.elem, hu]
      have hu' : c.P.underlying t = some (.slice (c.P.elem t)) := by have : c.P.elem t = e := hpe; rw [this]; exact hu
      have hpe' : c.P.elem t = e := hpe
      have hz : 0 < tySize c e := by cases hx; assumption
      obtain ⟨y, hy, hys⟩ := tySize_some (c := c) (t := e) (by omega)
      have hso : (Go.sizeOf (c.P.elem t)).run c.P w = .ok (tySize c e) w := by rw [hpe', ← hys]; exact (hc.ty _ _ hy).sizeOf w
      simp only [Option.map_none]
      cases lo with
      | none =>
        cases hi with
        | none =>
          simp only [sliceV, Option.map_none] at h
          obtain ⟨_, h⟩ := chk_some h
          obtain ⟨_, h⟩ := chk_some h
          obtain ⟨a, m, rfl, hcap, hrep⟩ := lst_sliced hx (Nat.zero_le _) (Nat.le_refl _)
          refine ⟨_, _, h, ?_, by simpa using hrep, rfl⟩
          simp only [Option.map_none]
          rw [run_sliceAt_slice w t _ _ _ _ hu', run_slice_all w t a _ m hu', hso]
          rfl
        | some o =>
          obtain ⟨k, n, h1, h2⟩ := hint o hhi
          simp only [sliceV, Option.map_none, Option.map_some, h1, V.getI] at h
          obtain ⟨g1, h⟩ := chk_some h
          obtain ⟨g2, h⟩ := chk_some h
          obtain ⟨g3, h⟩ := chk_some h
          obtain ⟨g4, h⟩ := chk_some h
          have g1 := of_decide_eq_true g1
          have g2 := of_decide_eq_true g2
          have g3 := of_decide_eq_true g3
          have g4 := of_decide_eq_true g4
          obtain ⟨a, m, rfl, hcap, hrep⟩ := lst_sliced hx (l := 0) (h := n.toNat) (Nat.zero_le _) (by omega)
          simp only [Option.map_some, Option.map_none, h2]
          refine ⟨_, _, h, ?_, by simpa using hrep, rfl⟩
          rw [run_sliceAt_slice w t _ _ _ _ hu', run_slice_h w t a _ m hu' k n g1 (by omega), hso]
          rfl
      | some ol =>
        obtain ⟨k, n, h1, h2⟩ := hint ol hlo
        cases hi with
        | none =>
          simp only [sliceV, Option.map_none, Option.map_some, h1, V.getI] at h
          obtain ⟨g1, h⟩ := chk_some h
          obtain ⟨g2, h⟩ := chk_some h
          have g1 := of_decide_eq_true g1
          have g2 := of_decide_eq_true g2
          obtain ⟨a, m, rfl, hcap, hrep⟩ := lst_sliced hx (l := n.toNat) (h := xs.length) (by omega) (Nat.le_refl _)
          simp only [Option.map_some, Option.map_none, h2]
          refine ⟨_, _, h, ?_, by simpa using hrep, rfl⟩
          rw [run_sliceAt_slice w t _ _ _ _ hu', run_slice_l w t a _ m hu' k n g1 g2, hso]
          rfl
        | some oh =>
          obtain ⟨k', n', h1', h2'⟩ := hint oh hhi
          simp only [sliceV, Option.map_none, Option.map_some, h1, h1', V.getI] at h
          obtain ⟨g1, h⟩ := chk_some h
          obtain ⟨g2, h⟩ := chk_some h
          obtain ⟨g3, h⟩ := chk_some h
          obtain ⟨g4, h⟩ := chk_some h
          have g1 := of_decide_eq_true g1
          have g2 := of_decide_eq_true g2
          have g3 := of_decide_eq_true g3
          have g4 := of_decide_eq_true g4
          obtain ⟨a, m, rfl, hcap, hrep⟩ := lst_sliced hx (l := n.toNat) (h := n'.toNat) (by omega) (by omega)
          simp only [Option.map_some, Option.map_none, h2, h2']
          refine ⟨_, _, h, ?_, by simpa using hrep, rfl⟩
          rw [run_sliceAt_slice w t _ _ _ _ hu', run_slice_lh w t a _ m hu' k k' n n' g3 g4 (by omega), hso]
          rfl
    · cases hok


/-- A string is ranged over: its place comes in front. -/
theorem Sim.newSit {env : List V} {tmps : List Value} {objs : List Ob} (h : Sim c E w G μ env tmps objs) (s : List UInt8) :
    Sim c E (w.alloc (.stringIter ⟨s.toArray⟩ 0)) (fun b => if b = w.heap.size then 0 else G b) (μ ++ [w.heap.size]) (.ref objs.length 0 :: env) (.pointer (some ⟨w.heap.size, 0, none⟩) :: tmps) (objs ++ [.sit s 0]) := by
  have hx := WExt.of_alloc (w := w) (G := G) h.inv.none (.stringIter ⟨s.toArray⟩ 0) 0
  have h' := h.ext hx
  have hnew : (w.alloc (.stringIter ⟨s.toArray⟩ 0)).heap[w.heap.size]? = some (.stringIter ⟨s.toArray⟩ 0) := by show (w.heap.push _)[w.heap.size]? = _; simp
  have hO : leafO (w.alloc (.stringIter ⟨s.toArray⟩ 0)) objs μ = leafO w objs μ := leafO_same objs μ fun b hb => (hx.keep b (h.inv.mine b hb).1).1
  have hlen := h.inv.olen
  have hmore : ∀ {u : V} {y : Value}, Rep c (w.alloc (.stringIter ⟨s.toArray⟩ 0)) (fun b => if b = w.heap.size then 0 else G b) μ u y →
      Rep c (w.alloc (.stringIter ⟨s.toArray⟩ 0)) (fun b => if b = w.heap.size then 0 else G b) (μ ++ [w.heap.size]) u y := fun hh =>
    hh.more fun i b _ hb => by
      rw [List.getElem?_append_left (List.getElem?_eq_some_iff.1 hb).1]; exact hb
  have hLO : leafO (w.alloc (.stringIter ⟨s.toArray⟩ 0)) (objs ++ [.sit s 0]) (μ ++ [w.heap.size]) = leafO w objs μ := by
    rw [leafO_append _ _ _ _ _ hlen, hO]
    simp [leafO]
  have hzz' : zipF leaf3 (.ref objs.length 0 :: env) (.pointer (some ⟨w.heap.size, 0, none⟩) :: tmps) = zipF leaf3 env tmps := by simp [zipF, leaf3, leaf2, leaf1]
  have hold : cnt w.heap.size (zipF leaf3 env tmps) + cnt w.heap.size (leafO w objs μ) + μ.count w.heap.size = 0 := by
    rcases Nat.eq_zero_or_pos (cnt w.heap.size (zipF leaf3 env tmps) + cnt w.heap.size (leafO w objs μ) + μ.count w.heap.size) with h0 | h0
    · exact h0
    · exact absurd (h.leaf_lt h0) (Nat.lt_irrefl _)
  refine ⟨⟨by simpa using h'.inv.len, fun i u y hu hy => ?_, by simp [hlen], fun i o b ho hb => ?_, fun b => ?_, fun q hq => ?_, fun b hb => ?_, h'.inv.none⟩, h'.stp, fun b hb hcc => ?_, ?_⟩
  · cases i with
    | zero =>
      simp at hu hy; subst hu; subst hy
      exact .ref _ 0 _ (by simp [hlen])
    | succ i => exact hmore (h'.inv.rep i u y (by simpa using hu) (by simpa using hy))
  · by_cases hi : i < objs.length
    · rw [List.getElem?_append_left hi] at ho
      rw [List.getElem?_append_left (by omega)] at hb
      have := h'.inv.obs i o b ho hb
      cases o with
      | cells cs =>
        obtain ⟨l, e, fr, h1, h2, h3, h4, h5⟩ := this
        exact ⟨l, e, fr, h1, h2, h3, h4, fun i v x hv hx => hmore (h5 i v x hv hx)⟩
      | sit s p => exact this
      | mp kd vd es => exact this
      | dead => trivial
    · have hi' : i = objs.length := by
        have := (List.getElem?_eq_some_iff.1 ho).1; simp at this; omega
      subst hi'
      rw [hlen] at hb
      simp at ho hb; subst ho; subst hb
      exact ⟨0, rfl, hnew⟩
  · rw [hzz', hLO, List.count_append]
    have h1 := h.inv.one b
    by_cases hb : b = w.heap.size
    · subst hb
      simp; omega
    · have : (w.heap.size == b) = false := by simp; exact fun e => hb e.symm
      simp [List.count_cons, this]; omega
  · rw [hzz', hLO] at hq
    refine h'.inv.ok q ?_
    rw [hO]; exact hq
  · rw [List.mem_append] at hb
    rcases hb with hb | hb
    · exact h'.inv.mine b hb
    · simp at hb; subst hb; simp
  · rw [hzz', hLO, List.count_append] at hcc
    refine h'.own b hb ?_
    rw [hO]
    have : (w.heap.size == b) = false := by
      have := h.stp.size
      simp; omega
    simp [List.count_cons, this] at hcc
    omega
  · obtain ⟨ν, hν⟩ := h.pre
    exact ⟨ν ++ [w.heap.size], by rw [hν]; simp⟩

theorem St.sit_get {S : St} {i : Nat} {s : List UInt8} {p : Int} (h : S.ob i = .sit s p) : S.objs[i]? = some (.sit s p) := by
  unfold St.ob at h
  rw [List.getD] at h
  cases ho : S.objs[i]? with
  | none => rw [ho] at h; cases h
  | some o => rw [ho] at h; simp at h; rw [h]


/-- A map is made: it comes in front. -/
theorem Sim.newMap {env : List V} {tmps : List Value} {objs : List Ob} (h : Sim c E w G μ env tmps objs) (kd vd : SK) :
    Sim c E (w.alloc (.map #[] 0)) (fun b => if b = w.heap.size then 0 else G b) (μ ++ [w.heap.size]) (.mref objs.length :: env) (.map (some w.heap.size) :: tmps) (objs ++ [.mp kd vd []]) := by
  have hx := WExt.of_alloc (w := w) (G := G) h.inv.none (.map #[] 0) 0
  have h' := h.ext hx
  have hnew : (w.alloc (.map #[] 0)).heap[w.heap.size]? = some (.map #[] 0) := by show (w.heap.push _)[w.heap.size]? = _; simp
  have hO : leafO (w.alloc (.map #[] 0)) objs μ = leafO w objs μ := leafO_same objs μ fun b hb => (hx.keep b (h.inv.mine b hb).1).1
  have hlen := h.inv.olen
  have hmore : ∀ {u : V} {y : Value}, Rep c (w.alloc (.map #[] 0)) (fun b => if b = w.heap.size then 0 else G b) μ u y →
      Rep c (w.alloc (.map #[] 0)) (fun b => if b = w.heap.size then 0 else G b) (μ ++ [w.heap.size]) u y := fun hh =>
    hh.more fun i b _ hb => by
      rw [List.getElem?_append_left (List.getElem?_eq_some_iff.1 hb).1]; exact hb
  have hLO : leafO (w.alloc (.map #[] 0)) (objs ++ [.mp kd vd []]) (μ ++ [w.heap.size]) = leafO w objs μ := by
    rw [leafO_append _ _ _ _ _ hlen, hO]
    simp [leafO]
  have hzz' : zipF leaf3 (.mref objs.length :: env) (.map (some w.heap.size) :: tmps) = zipF leaf3 env tmps := by simp [zipF, leaf3, leaf2, leaf1]
  have hold : cnt w.heap.size (zipF leaf3 env tmps) + cnt w.heap.size (leafO w objs μ) + μ.count w.heap.size = 0 := by
    rcases Nat.eq_zero_or_pos (cnt w.heap.size (zipF leaf3 env tmps) + cnt w.heap.size (leafO w objs μ) + μ.count w.heap.size) with h0 | h0
    · exact h0
    · exact absurd (h.leaf_lt h0) (Nat.lt_irrefl _)
  refine ⟨⟨by simpa using h'.inv.len, fun i u y hu hy => ?_, by simp [hlen], fun i o b ho hb => ?_, fun b => ?_, fun q hq => ?_, fun b hb => ?_, h'.inv.none⟩, h'.stp, fun b hb hcc => ?_, ?_⟩
  · cases i with
    | zero =>
      simp at hu hy; subst hu; subst hy
      exact .mref _ _ (by simp [hlen])
    | succ i => exact hmore (h'.inv.rep i u y (by simpa using hu) (by simpa using hy))
  · by_cases hi : i < objs.length
    · rw [List.getElem?_append_left hi] at ho
      rw [List.getElem?_append_left (by omega)] at hb
      have := h'.inv.obs i o b ho hb
      cases o with
      | cells cs =>
        obtain ⟨l, e, fr, h1, h2, h3, h4, h5⟩ := this
        exact ⟨l, e, fr, h1, h2, h3, h4, fun i v x hv hx => hmore (h5 i v x hv hx)⟩
      | sit s p => exact this
      | mp kd vd es => exact this
      | dead => trivial
    · have hi' : i = objs.length := by
        have := (List.getElem?_eq_some_iff.1 ho).1; simp at this; omega
      subst hi'
      rw [hlen] at hb
      simp at ho hb; subst ho; subst hb
      exact ⟨⟨#[], 0, hnew, rfl⟩, fun p hp => by simp at hp⟩
  · rw [hzz', hLO, List.count_append]
    have h1 := h.inv.one b
    by_cases hb : b = w.heap.size
    · subst hb
      simp; omega
    · have : (w.heap.size == b) = false := by simp; exact fun e => hb e.symm
      simp [List.count_cons, this]; omega
  · rw [hzz', hLO] at hq
    refine h'.inv.ok q ?_
    rw [hO]; exact hq
  · rw [List.mem_append] at hb
    rcases hb with hb | hb
    · exact h'.inv.mine b hb
    · simp at hb; subst hb; simp
  · rw [hzz', hLO, List.count_append] at hcc
    refine h'.own b hb ?_
    rw [hO]
    have : (w.heap.size == b) = false := by
      have := h.stp.size
      simp; omega
    simp [List.count_cons, this] at hcc
    omega
  · obtain ⟨ν, hν⟩ := h.pre
    exact ⟨ν ++ [w.heap.size], by rw [hν]; simp⟩

theorem St.mp_get {S : St} {i : Nat} {kd vd : SK} {es : List (Sc × Sc)} (h : S.ob i = .mp kd vd es) : S.objs[i]? = some (.mp kd vd es) := by
  unfold St.ob at h
  rw [List.getD] at h
  cases ho : S.objs[i]? with
  | none => rw [ho] at h; cases h
  | some o => rw [ho] at h; simp at h; rw [h]

theorem sc_of {v : V} {x : Value} {k : Sc} (h : Rep c w G μ v x) (hv : v.toSc = some k) : x = k.val := by
  cases h <;> simp [V.toSc] at hv <;> subst hv <;> rfl
theorem mref_of {v : V} {x : Value} {i : Nat} (h : Rep c w G μ v x) (hv : v = .mref i) : ∃ b, μ[i]? = some b ∧ x = .map (some b) := by
  subst hv; cases h with | mref _ b hb => exact ⟨b, hb, rfl⟩

theorem leaf3_bot (x : Value) : leaf3 .bot x = [] := by cases x <;> rfl
theorem skOf_und (hc : CfgOk c) {t : TypeId} {k : SK} (h : skOf c t = some k) : ∃ d, c.P.underlying t = some d ∧ skD d = some k := by
  unfold skOf at h
  split at h
  · rename_i y hy
    split at h
    · rename_i k' hk
      split at h
      · cases h; exact ⟨_, (hc.ty _ _ hy).und, hk⟩
      · cases h
    · cases h
  · cases h
theorem mapOf_und (hc : CfgOk c) {t : TypeId} {p : SK × SK} (h : mapOf c t = some p) : ∃ kt et dk dv, c.P.underlying t = some (.map kt et) ∧ c.P.underlying kt = some dk ∧ skD dk = some p.1 ∧
    skOf c et = some p.2 ∧ c.P.underlying et = some dv ∧ skD dv = some p.2 := by
  unfold mapOf at h
  split at h
  · rename_i kt et _ _ _ _ _ _ hy
    split at h
    · rename_i k v hk hv
      cases h
      obtain ⟨dk, h1, h2⟩ := skOf_und hc hk
      obtain ⟨dv, h3, h4⟩ := skOf_und hc hv
      exact ⟨kt, et, dk, dv, (hc.ty _ _ hy).und, h1, h2, hv, h3, h4⟩
    · cases h
  · cases h

theorem run_checkKey {P : Program} (w : World) {t : TypeId} {d : TypeDesc} {k : SK} (h : P.underlying t = some d) (hd : skD d = some k) (e : Bool) (n : Nat) (v : Value) :
    (Instr.checkKey e (n + 1) t v).run P w = .ok () w := by
  unfold Instr.checkKey
  rw [Sem.run_bind, run_underlying h, Result.andThen_ok]
  cases d <;> simp [skD] at hd <;> rfl

def midx (x : Sc) : List (Sc × Sc) → Nat → Option (Nat × Sc)
  | [], _ => none
  | (k, v) :: r, i => if x.same k then some (i, v) else midx x r (i + 1)
theorem midx_get (x : Sc) : ∀ (es : List (Sc × Sc)) (i : Nat), mget x es = (midx x es i).map (·.2)
  | [], _ => rfl
  | (k, v) :: r, i => by
    simp only [mget, midx]
    split
    · rfl
    · exact midx_get x r (i + 1)
theorem midx_put (x u : Sc) : ∀ (es : List (Sc × Sc)) (i : Nat), match midx x es i with
    | none => mput x u es = es ++ [(x, u)]
    | some (j, _) => ∃ n k v, j = i + n ∧ es[n]? = some (k, v) ∧ x.same k = true ∧ mput x u es = es.set n (x, u)
  | [], i => by simp [midx, mput]
  | (k, v) :: r, i => by
    simp only [midx, mput]
    cases hk : x.same k
    · have := midx_put x u r (i + 1)
      cases hm : midx x r (i + 1) with
      | none =>
        rw [hm] at this
        simp [hm, this]
      | some p =>
        rw [hm] at this
        obtain ⟨n, k', v'', e1, e2, e3, e4⟩ := this
        simp only [hm, Bool.false_eq_true, if_false]
        exact ⟨n + 1, k', v'', by omega, by simpa using e2, e3, by rw [e4]; rfl⟩
    · simp only [if_true]
      exact ⟨0, k, v, rfl, rfl, hk, rfl⟩

theorem bytes_beq (a b : List UInt8) : ((⟨a.toArray⟩ : ByteArray) == ⟨b.toArray⟩) = (a == b) := by
  show (a.toArray == b.toArray) = _
  simp
theorem sameNow_ok {d : TypeDesc} {x k : Sc} {s : SK} (hd : skD d = some s) (hx : x.kind = s) (hk : k.kind = s) : Instr.sameNow d x.val k.val = some (x.same k) := by
  subst hk
  cases x <;> cases k <;> simp [Sc.kind] at hx <;> cases d <;> simp [skD] at hd <;> simp_all [Instr.sameNow, Sc.val, Sc.same, Sc.kind]
  exact bytes_beq _ _

theorem findNow_ok {d : TypeDesc} {x : Sc} {s : SK} (hd : skD d = some s) (hx : x.kind = s) : ∀ (l : List MapEntry) (es : List (Sc × Sc)) (i : Nat),
    l.map (fun e => (e.key, e.val)) = es.map (fun p => (p.1.val, p.2.val)) → (∀ p ∈ es, p.1.kind = s) → Instr.findNow d x.val l i = some ((midx x es i).map fun p => (p.1, p.2.val))
  | [], [], _, _, _ => rfl
  | [], _ :: _, _, h, _ => by simp at h
  | _ :: _, [], _, h, _ => by simp at h
  | e :: l, (k, v) :: es, i, h, hk => by
    simp only [List.map_cons, List.cons.injEq, Prod.mk.injEq] at h
    simp only [Instr.findNow, h.1.1, h.1.2, sameNow_ok hd hx (hk (k, v) (by simp)), midx]
    cases hs : x.same k
    · simp only [Bool.false_eq_true, if_false]
      exact findNow_ok hd hx l es (i + 1) h.2 fun p hp => hk p (by simp [hp])
    · simp

theorem run_findKey {P : Program} (w : World) {t : TypeId} {d : TypeDesc} {x : Sc} {s : SK} (hu : P.underlying t = some d) (hd : skD d = some s) (hx : x.kind = s) {l : List MapEntry} {es : List (Sc × Sc)}
    (h : l.map (fun e => (e.key, e.val)) = es.map (fun p => (p.1.val, p.2.val))) (hk : ∀ p ∈ es, p.1.kind = s) :
    (Instr.findKey t x.val l).run P w = .ok ((midx x es 0).map fun p => (p.1, p.2.val)) w := by
  unfold Instr.findKey
  rw [Sem.run_bind, run_underlying hu, Result.andThen_ok, findNow_ok hd hx l es 0 h hk]
  rfl

theorem sameBits_val (n : Nat) (x k : Sc) (h : x.same k = true) (hk : x.kind = k.kind) : Instr.sameBits n k.val x.val = true := by
  cases x <;> cases k <;> simp [Sc.kind] at hk <;> simp [Sc.same] at h <;> simp_all [Instr.sameBits, Sc.val]
  exact (bytes_beq _ _).trans (by simp)

theorem mval_rep {w : World} {G : Gh} {μ : List Nat} (k : Sc) (es : List (Sc × Sc)) (vd : SK) (h : ∀ p ∈ es, p.2.kind = vd) {v : Sc} (hv : mget k es = some v) : mval vd k es = v.toV ∧ Rep c w G μ v.toV v.val := by
  have hkd : v.kind = vd := by
    induction es with
    | nil => simp [mget] at hv
    | cons p r ih =>
      obtain ⟨a, b⟩ := p
      simp only [mget] at hv
      split at hv
      · cases hv; exact h (a, v) (by simp)
      · exact ih (fun p hp => h p (by simp [hp])) hv
  refine ⟨?_, ?_⟩
  · cases v <;> simp [Sc.kind] at hkd <;> subst hkd <;> simp [mval, hv, Sc.getB, Sc.getI, Sc.getS, Sc.toV]
  · cases v
    · exact .bool _
    · exact .int _ _
    · exact .str _

theorem zero_sk (hc : CfgOk c) {t : TypeId} {k : SK} (w : World) (h : skOf c t = some k) (k0 : Sc) (es : List (Sc × Sc)) (hn : mget k0 es = none) :
    ∃ z, (zeroValue t).run c.P w = .ok z w ∧ ∀ (G : Gh) (μ : List Nat), Rep c w G μ (mval k k0 es) z := by
  unfold skOf at h
  split at h
  · rename_i y hy
    split at h
    · rename_i k' hk
      split at h
      · rename_i hz
        cases h
        simp only [Bool.and_eq_true, Bool.not_eq_true'] at hz
        obtain ⟨z, hz1, hz2, hz3⟩ := (hc.ty _ _ hy).zero w
        refine ⟨z, hz1, fun G μ => ?_⟩
        obtain ⟨g1, g2, g3, _⟩ := zfits_rep _ _ hz2 w G μ
        have hzz : y.zero = [mval k k0 es] := by
          have h2 := hz.2
          unfold zeroIs at h2
          split at h2 <;> first
            | (rename_i e; simp at h2; simp_all [mval, Sc.getB, Sc.getI, Sc.getS])
            | (rename_i e; simp at h2; obtain ⟨rfl, rfl⟩ := h2; simp_all [mval, Sc.getB, Sc.getI, Sc.getS])
            | cases h2
        have hag : ¬∃ l, z = .agg l := fun e => by have := hz3.2 e; rw [hz.1] at this; cases this
        have hcl : z.cells.toList = [z] := by
          cases z <;> first
            | rfl
            | exact absurd ⟨_, rfl⟩ hag
        rw [hzz, hcl] at g3
        exact g3 0 _ _ rfl rfl
      · cases h
    · cases h
  · cases h

/-- All operations but calls. -/
theorem opK_ok (hc : CfgOk c) {call : FuncId → Fun} {icall : ICall R} {ops : List Oper} {o : Oper} {S : St} {a : Act} {K : V → St → Option R} {r : R}
    (h : opK c call icall ops o S K = some r) (hn : ∀ cl, o.op ≠ .call cl) (hS : SimS c E w G μ S a) : OpOk c E o a w K r := by
  obtain ⟨dst, op, type, pos, after, guard⟩ := o
  unfold opK at h
  cases op <;> simp only at h
  case call cl => exact absurd rfl (hn cl)
  case move x =>
    split at h
    · obtain ⟨S', hk, ho, hs⟩ := shedK_sim (t := type) h hS
      exact .inl ⟨a.eval x, w, rfl, _, S', G, μ, hk, by rw [ho]; exact hs⟩
    · exact .pure hS h rfl (opd_rep hS type x).cut (leaf3_cut _ _)
  case assign x =>
    obtain ⟨S', hk, ho, hs⟩ := shedK_sim (t := type) h hS
    exact .inl ⟨a.eval x, w, rfl, _, S', G, μ, hk, by rw [ho]; exact hs⟩
  case pick cx x y =>
    have hrc := opd_rep hS 0 cx
    split at h
    · rename_i hg
      have := bool_of hrc hg
      exact .pure hS h (by simp [execOp, this, asBool]) (opd_rep hS type x).cut (leaf3_cut _ _)
    · rename_i hg
      have := bool_of hrc hg
      exact .pure hS h (by simp [execOp, this, asBool]) (opd_rep hS type y).cut (leaf3_cut _ _)
    · cases h
  case binOp op t x y ty =>
    obtain ⟨v, u, hk, hrun, hr, ht⟩ := binV_run hc h (opd_rep hS t x) (opd_rep hS ty y) x y
    refine .pure hS hk ?_ (hr w G μ) (leaf3_nil_of_tips _ ht)
    have := hrun w
    simp only [execOp, Sem.run_bind, this, Result.andThen_ok, Sem.run_pure]
  case unOp op t x =>
    have hrx := opd_rep hS type x
    cases op <;> simp only at h
    case not =>
      split at h
      · rename_i b hg
        have := bool_of hrx hg
        exact .pure hS h (by simp [execOp, this, Op.unary]) (.bool _) rfl
      · cases h
    case neg =>
      split at h
      · rename_i k n hg
        have := int_of hrx hg
        exact .pure hS h (by simp [execOp, this, Op.unary, Op.intArith]) (.int _ _) rfl
      · cases h
    case xor =>
      split at h
      · rename_i k n hg
        have := int_of hrx hg
        exact .pure hS h (by simp only [execOp, this, Op.unary]; rfl) (.int _ _) rfl
      · cases h
    case plus => cases h
  case convert src dst' x =>
    have hrx := opd_rep hS src x
    unfold convV at h
    split at h
    · rename_i ys yd h1 h2
      have u1 := (hc.ty _ _ h1).und
      have u2 := (hc.ty _ _ h2).und
      generalize ys.d = ds at h u1
      generalize yd.d = dd at h u2
      generalize hg : opd c S src x = vx at h
      split at h
      · have := int_of hrx hg
        exact .pure hS h (by simp [execOp, this, convert, run_underlying u1, run_underlying u2, Conv.intToInt]) (.int _ _) rfl
      · rename_i n
        have := int_of hrx hg
        refine .pure hS h (u := .string (Utf8.encode n)) (by simp [execOp, this, convert, run_underlying u1, run_underlying u2, Conv.intToString]) ?_ rfl
        have := Rep.str (c := c) (w := w) (G := G) (μ := μ) (Utf8.encode n).data.toList
        simpa using this
      · have := str_of hrx hg
        exact .pure hS h (by simp [execOp, this, convert, run_underlying u1, run_underlying u2]) (.str _) rfl
      · rename_i e s
        split at h
        · rename_i hby
          obtain ⟨ye, hye, hue, hse, hfe⟩ := isByte_ty hby hc
          have hx := str_of hrx hg
          have hrun := Lib.run_convert_string_bytes (P := c.P) w src dst' e ⟨s.toArray⟩ u1 u2 hue
          have hsz : (⟨s.toArray⟩ : ByteArray).size = s.length := by simp [ByteArray.size]
          rw [hsz] at hrun
          have hcells : (Lib.bytesCells w e ⟨s.toArray⟩).toList = (s.map fun b => Value.int .u8 b.toNat) ++ List.replicate (grownCap w s.length 0 e - s.length) (.int .u8 0) := by
            simp [Lib.bytesCells, hsz]
          have hge := grownCap_ge w s.length 0 e
          have hcs : (Lib.bytesCells w e ⟨s.toArray⟩).size = grownCap w s.length 0 e := by
            have := congrArg List.length hcells
            simp at this; omega
          have hnew := Lib.bytesWorld_at_new w e ⟨s.toArray⟩
          have hx2 : WExt w G (Lib.bytesWorld w e ⟨s.toArray⟩) (fun k => if k = w.heap.size then s.length else G k) := by
            refine ⟨by rw [Lib.bytesWorld_size]; omega, fun b hb => ⟨Lib.bytesWorld_at_old w e _ b hb, by simp [Nat.ne_of_lt hb]⟩, fun b hb => ?_, ?_, ?_, ?_⟩
            · rw [Lib.bytesWorld_size] at hb
              have : b ≠ w.heap.size := by omega
              simp [this, hS.inv.none b (by omega)]
            all_goals (unfold Lib.bytesWorld World.freeze; split <;> rfl)
          have hfl : flat (s.map fun b => Value.int .u8 b.toNat) = s.map fun b => Value.int .u8 b.toNat := flat_ints s
          have := hS.newList hx2 (e := e) (t := true) (xs := ofBytes s) (l := s.map fun b => Value.int .u8 b.toNat) (cap := grownCap w s.length 0 e) hnew
            (by rw [hfl]; simp) (fun j y hj => by
              rw [hfl] at hj
              have hjl := (List.getElem?_eq_some_iff.1 hj).1
              have e1 : (Lib.bytesCells w e ⟨s.toArray⟩).toList[j]? = some y := by rw [hcells, List.getElem?_append_left hjl]; exact hj
              simpa using e1)
            (by simp [ofBytes]) (fun i v y hv hy => ofBytes_rep _ _ s i v y hv hy) ((isByte_size hby hc).2 s) (fun y hy => by
              obtain ⟨b, _, rfl⟩ := List.mem_map.1 hy
              rw [(isByte_size hby hc).1]; rfl)
            (by rw [(isByte_size hby hc).1]; omega) (by simpa [ofBytes] using hge) (by rw [(isByte_size hby hc).1, hcs]; omega)
            (fun o ho ho' => by simp; omega) (by rw [hfl, (isByte_size hby hc).1]; simp [ofBytes])
          refine .inl ⟨_, _, ?_, _, S, _, μ, h, by simpa [ofBytes] using this⟩
          simp only [execOp, hx, Sem.run_bind, hrun, Result.andThen_ok, Sem.run_pure]
        · cases h
      · rename_i e e' tp xs
        split at h
        · rename_i hby
          simp only [Bool.and_eq_true, beq_iff_eq] at hby
          obtain ⟨hby, rfl⟩ := hby
          obtain ⟨ye, hye, hue, hse, hfe⟩ := isByte_ty hby hc
          rw [hg] at hrx
          obtain ⟨hrun, q, n, m, hX⟩ := bytes_run hc hby hrx
          refine .pure hS h ?_ (.str _) rfl
          have e1 := run_convert_bytes_string (P := c.P) w src dst' e q n m u1 hue u2
          rw [← hX] at e1
          simp only [execOp, Sem.run_bind, e1, hrun, Result.andThen_ok, Sem.run_pure]
        · cases h
      · cases h
    · cases h
  case build t parts =>
    split at h
    · rename_i v hv
      generalize hps : (parts.toList.map fun p => (p.1, opd c S (match c.ty t with | some { d := .struct fs, .. } => ((fs[p.1]?).map (·.type)).getD 0 | some { d := .array _ e, .. } => e | _ => 0) p.2 |>.cut)) = ps at hv
      have hpp : ∀ (i : Nat) p q, ps[i]? = some p → ((parts.map fun (i, x) => (i, a.eval x)).toList)[i]? = some q → p.1 = q.1 ∧ Rep c w G μ p.2 q.2 := by
        intro i p q hp hq
        rw [← hps] at hp
        obtain ⟨p0, h0, rfl⟩ := get_map hp
        simp only [Array.toList_map] at hq
        obtain ⟨q0, h1, rfl⟩ := get_map hq
        rw [h0] at h1; cases h1
        exact ⟨rfl, (opd_rep hS _ _).cut⟩
      have hpl : ps.length = (parts.map fun (i, x) => (i, a.eval x)).toList.length := by rw [← hps]; simp
      unfold buildV at hv
      split at hv
      · rename_i fs size bytes agg sh zero eq hy
        have hok := hc.ty _ _ hy
        obtain ⟨cs', hfill, rfl⟩ := Option.map_eq_some_iff.1 hv
        obtain ⟨z, hz, hzf, hza⟩ := hok.zero w
        obtain ⟨g1, g2, g3, g4⟩ := zfits_rep zero z.cells.toList hzf w G μ
        have hplaces : (fun (i : Nat) => (fs[i]?).map fun (f : Field) => (f.offset, tySize c f.type)) = fun (i : Nat) => (fs.map fun (f : Field) => (f.offset, tySize c f.type))[i]? := by
          funext i; simp
        rw [hplaces] at hfill
        obtain ⟨CS', f1, f2, f3, f4, f5⟩ := fill_ok (c := c) (w := w) (G := G) (μ := μ) _ ps _ zero cs' z.cells hpl hpp g1 g2 g3 hfill
        refine .pure hS h (u := .agg CS') ?_ ?_ ?_
        · have hpm : (fs.mapM fun (f : Field) => (do pure (f.offset, ← Go.sizeOf f.type) : Sem (Nat × Nat))).run c.P w = .ok (fs.map fun (f : Field) => (f.offset, tySize c f.type)) w := by
            refine run_mapMA fs fun f hf => ?_
            obtain ⟨yf, hyf⟩ := hok.fields fs rfl f hf
            simp [(hc.ty _ _ hyf).sizeOf, tySize, hyf]
          simp only [execOp, Instr.build, Sem.run_bind, hz, Result.andThen_ok, run_underlying hok.und, hpm, f1, Sem.run_pure]
        · have := Rep.agg (c := c) (w := w) (G := G) (μ := μ) cs' CS'.toList f2 f3 f4
          simpa using this
        · simp only [leaf3, leaf2]
          exact f5 (fun i p q hp hq => by
            rw [← hps] at hp
            obtain ⟨p0, h0, rfl⟩ := get_map hp
            exact leaf3_cut _ _) g4
      · rename_i n e size bytes agg sh zero eq hy
        have hok := hc.ty _ _ hy
        obtain ⟨cs', hfill, rfl⟩ := Option.map_eq_some_iff.1 hv
        obtain ⟨z, hz, hzf, hza⟩ := hok.zero w
        obtain ⟨g1, g2, g3, g4⟩ := zfits_rep zero z.cells.toList hzf w G μ
        obtain ⟨CS', f1, f2, f3, f4, f5⟩ := fill_ok (c := c) (w := w) (G := G) (μ := μ) _ ps _ zero cs' z.cells hpl hpp g1 g2 g3 hfill
        obtain ⟨ye, hye⟩ := hok.elem n e rfl
        have hse : tySize c e = ye.size := by simp [tySize, hye]
        refine .pure hS h (u := .agg CS') ?_ ?_ ?_
        · rw [hse] at f1
          simp only [execOp, Instr.build, Sem.run_bind, hz, Result.andThen_ok, run_underlying hok.und, (hc.ty _ _ hye).sizeOf, f1, Sem.run_pure]
        · have := Rep.agg (c := c) (w := w) (G := G) (μ := μ) cs' CS'.toList f2 f3 f4
          simpa using this
        · simp only [leaf3, leaf2]
          exact f5 (fun i p q hp hq => by
            rw [← hps] at hp
            obtain ⟨p0, h0, rfl⟩ := get_map hp
            exact leaf3_cut _ _) g4
      · cases hv
    · cases h
  case buildSlice t n parts =>
    split at h
    · cases h
    · rename_i e he
      split at h
      · cases h
      · rename_i xs hxs
        split at h
        · rename_i hcnd
          simp only [Bool.and_eq_true, decide_eq_true_eq, List.all_eq_true, List.isEmpty_iff] at hcnd
          obtain ⟨⟨⟨hall, href⟩, hsmall⟩, hz0⟩ := hcnd
          exact .inl (buildSlice_ok hc hS he hxs hall href hsmall hz0 h rfl)
        · cases h
  case alloc t =>
    split at h
    · rename_i y hy
      rw [newK_eq] at h
      have hok := hc.ty t y hy
      obtain ⟨z, hz, hzf, hza⟩ := hok.zero w
      obtain ⟨g1, g2, g3, g4⟩ := zfits_rep y.zero z.cells.toList hzf w G μ
      have hag : Rep c w G μ (.agg y.zero) (.agg z.cells.toList.toArray) := .agg y.zero z.cells.toList g1 g2 g3
      have hs := (hS.push hag (by simp only [leaf3, leaf2, List.toList_toArray]; exact g4)).newObj (elem := t) (by
        simp only [V.cells, List.all_eq_true]
        intro v hv
        obtain ⟨i, hi⟩ := List.getElem?_of_mem hv
        have hlt := (List.getElem?_eq_some_iff.1 hi).1
        have key : ∀ (a : List V) (b : List Value), zfits c a b = true → ∀ v ∈ a, v.single = true := by
          intro a
          induction a with
          | nil => intro b _ v h; cases h
          | cons u a ih =>
            intro b hb v hv
            cases b with
            | nil => simp [zfits] at hb
            | cons x b =>
              simp only [zfits, Bool.and_eq_true] at hb
              rcases List.mem_cons.1 hv with rfl | hv
              · have := hb.1
                unfold zfit at this
                split at this <;> first | rfl | cases this
              · exact ih b hb.2 v hv
        exact key _ _ hzf v hv)
      simp only [V.cells, Value.cells, Array.toArray_toList] at hs
      refine .inl ⟨_, _, ?_, _, _, _, _, h, hs⟩
      simp [execOp, Instr.alloc, hz, newVar, newRow, Value.cells]
    · cases h
  case box t x =>
    split at h
    · rename_i hcnd
      simp only [Bool.and_eq_true] at hcnd
      obtain ⟨S', hk, ho, hs⟩ := shedK_sim (t := t) h hS
      rw [newK_eq, ho] at hk
      have hs2 := hs.newObj hcnd.2 t
      refine .inl ⟨_, _, ?_, _, _, _, _, hk, hs2⟩
      simp [execOp, Instr.box, newVar, newRow]
    · cases h
  case load t x =>
    have hrx := opd_rep hS 0 x
    split at h
    · rename_i v hv
      generalize opd c S 0 x = p at hv h hrx
      unfold loadV at hv
      split at hv
      · rename_i i off
        split at hv
        · rename_i cs hob
          have hobs := St.ob_get hob
          obtain ⟨b, hb⟩ := μ_get hS hobs
          obtain ⟨l, elem, fr, h1, h2, h3, h4, h5⟩ := hS.inv.obs i _ b hobs hb
          have hx : a.eval x = .pointer (some ⟨b, 0 + off, none⟩) := by
            obtain ⟨b', hb', hx'⟩ := ref_of hrx rfl
            rw [hb] at hb'; cases hb'; simpa using hx'
          obtain ⟨u, y, hy, hrun, hru, huc, hle, hvc, hag⟩ := loadVar_ok (w := w) (b := b) (o0 := 0) hc hv h3 h4 h5 (fun j z hj => by
            simp only [World.cell?, h1, Nat.zero_add]; simpa using hj)
          have hrunO : (execOp a.eval ⟨dst, .load t x, type, pos, after, guard⟩).run c.P w = .ok (.value u) w := by
            simp only [execOp, hx, Instr.loadAt, Instr.sureAddr, Sem.run_bind, Sem.run_pure, Result.andThen_ok, hrun]
          have hlf : zipF leaf1 v.cells u.cells.toList = leaf3 v u := leaf3_part hru (hag.imp id fun ⟨g1, g2⟩ => ⟨g1, by
            have hle2 : off + y.size ≤ cs.length := by omega
            have : v.cells.length = 1 := by rw [hvc]; simp; omega
            match hvv : v.cells, this with
            | [z], _ => exact ⟨z, rfl⟩⟩)
          simp only [V.isRef, Bool.and_true] at h
          split at h
          · have hcat : cellsAt w b = l := by unfold cellsAt; rw [h1]
            have hsz : tySize c t = y.size := by simp [tySize, hy]
            unfold shedMemK at h
            simp only [hob, setObK_eq, hsz] at h
            exact .inl ⟨u, w, hrunO, v, _, G, μ, h, hS.takeOb hobs hb hcat h3 (by omega) hru hvc huc hlf⟩
          · exact .pure hS h hrunO hru.cut (leaf3_cut _ _)
        · cases hv
      · rename_i cs
        obtain ⟨b, off, l, hx, hl, hs, hr, hrow⟩ := cpt_of hrx rfl
        · obtain ⟨u, y, hy, hrun, hru, huc, hle, hvc, hag⟩ := loadVar_ok (w := w) (G := G) (μ := []) (b := b) (o0 := off) hc hv hl hs hr (fun j z hj => (hrow j z hj).1)
          have hru' : Rep c w G μ v u := hru.more fun i b _ h => by simp at h
          have hrunO : (execOp a.eval ⟨dst, .load t x, type, pos, after, guard⟩).run c.P w = .ok (.value u) w := by
            simp only [Nat.add_zero] at hrun
            simp only [execOp, hx, Instr.loadAt, Instr.sureAddr, Sem.run_bind, Sem.run_pure, Result.andThen_ok, hrun]
          simp only [V.isRef, Bool.and_false, Bool.false_eq_true, if_false] at h
          exact .pure hS h hrunO hru'.cut (leaf3_cut _ _)
      · cases hv
    · cases h
  case store t x y =>
    obtain ⟨S', hk, ho, hs⟩ := shedK_sim (t := t) h hS
    have hrx := opd_rep hS 0 x
    generalize opd c S 0 x = p at hk hrx
    unfold storeK at hk
    split at hk
    · rename_i i off
      split at hk
      · rename_i cs hob
        split at hk
        · rename_i hcnd
          simp only [Bool.and_eq_true, decide_eq_true_eq, beq_iff_eq] at hcnd
          obtain ⟨⟨⟨hty, hle⟩, hvl⟩, hsg⟩ := hcnd
          obtain ⟨yt, hyt⟩ := Option.isSome_iff_exists.1 hty
          have hsz : tySize c t = yt.size := by simp [tySize, hyt]
          have hobs : S.objs[i]? = some (.cells cs) := by
            have : S'.ob i = S.ob i := by simp only [St.ob, ho]
            rw [this] at hob; exact St.ob_get hob
          obtain ⟨b, hb, hx⟩ := ref_of hrx rfl
          obtain ⟨w', hrun, hsim⟩ := hs.store hobs hb hsg (by rw [hvl]; exact hle)
          rw [setObK_eq, ho] at hk
          have hxc : (a.eval y).cells.size = yt.size := by
            have := (cells_rep (hs.inv.rep 0 _ _ rfl rfl) hsg).1
            rw [this, hvl, hsz]
          refine .inr (.inl ⟨w', ?_, .bot, _, G, μ, hk, hsim.push (.bot _) (by cases a.eval y <;> rfl)⟩)
          have hnn : ¬ (a.eval y).cells.size ≠ yt.size := by simp [hxc]
          simp only [execOp, hx, Instr.storeAt, Instr.sureAddr, storeVar, Sem.run_bind, Sem.run_pure, Result.andThen_ok, (hc.ty _ _ hyt).sizeOf, Sem.run_ite, if_neg hnn, hrun]
        · cases hk
      · cases hk
    · cases hk
  case nilCheck x =>
    have hrx := opd_rep hS 0 x
    generalize hg : opd c S 0 x = p at h hrx
    split at h
    · rename_i i f
      obtain ⟨b, hb, hx⟩ := ref_of hrx rfl
      exact .pure hS h (by simp only [execOp, hx]; rfl) (.ref i f b hb) rfl
    · rename_i cs
      obtain ⟨b, off, l, hx, _⟩ := cpt_of hrx rfl
      exact .pure hS h (u := a.eval x) (by simp only [execOp, hx]; rfl) hrx (leaf3_nil_of_tips _ rfl)
    · rename_i f fa fb
      split at h
      · rename_i f
        have hx : ∃ q1 q2, a.eval x = .func (.func f) q1 q2 := by
          generalize a.eval x = X at hrx
          cases hrx; exact ⟨_, _, rfl⟩
        obtain ⟨q1, q2, hx⟩ := hx
        exact .pure hS h (u := a.eval x) (by simp only [execOp, hx]; rfl) hrx (leaf3_nil_of_tips _ rfl)
      · cases h
    · cases h
  case fieldAddr t x f =>
    split at h
    · cases h
    · rename_i fs hfs
      obtain ⟨y, hy, hyd, hund, hft⟩ := fieldsOf_ty hfs hc
      split at h
      · cases h
      · rename_i fd hfd
        split at h
        · cases h
        · rename_i hsz
          have hne : tySize c fd.type ≠ 0 := by simpa using hsz
          obtain ⟨yf, hyf, hys⟩ := tySize_some hne
          have hplace : ∀ b off, (fieldPlace ⟨b, off, none⟩ fd).run c.P w = .ok ⟨b, off + fd.offset, none⟩ w := by
            intro b off
            have h0 : ¬ yf.size = 0 := by omega
            simp only [fieldPlace, Sem.run_bind, (hc.ty _ _ hyf).sizeOf, Result.andThen_ok, Sem.run_ite, if_neg h0, Sem.run_pure, Addr.add_lit]
          have hrx := opd_rep hS 0 x
          generalize hg : opd c S 0 x = p at h hrx
          split at h
          · rename_i i off
            obtain ⟨b, hb, hx⟩ := ref_of hrx rfl
            refine .pure hS h (u := .pointer (some ⟨b, off + fd.offset, none⟩)) ?_ (.ref i _ b hb) rfl
            simp only [execOp, Instr.fieldAt, Sem.run_bind, run_underlying hund, Result.andThen_ok, hfd, hx, Instr.sureAddr, Sem.run_pure, hplace]
          · rename_i cs
            obtain ⟨b, off, l, hx, hl, hs, hr, hrow⟩ := cpt_of hrx rfl
            refine .pure hS h (u := .pointer (some ⟨b, off + fd.offset, none⟩)) ?_ (.cpt _ b _ (l.drop fd.offset) (by simp [hl]) (fun z hz => hs z (List.mem_of_mem_drop hz)) (fun j p q hp hq => by
              rw [List.getElem?_drop] at hp hq; exact hr _ p q hp hq) (fun j q hq => by
              rw [List.getElem?_drop] at hq
              have := hrow _ q hq
              rwa [Nat.add_assoc])) (leaf3_nil_of_tips _ rfl)
            simp only [execOp, Instr.fieldAt, Sem.run_bind, run_underlying hund, Result.andThen_ok, hfd, hx, Instr.sureAddr, Sem.run_pure, hplace]
          · cases h
  case field t x f =>
    split at h
    · cases h
    · rename_i fs hfs
      obtain ⟨y, hy, hyd, hund, hft⟩ := fieldsOf_ty hfs hc
      have hrx := opd_rep hS t x
      generalize hg : opd c S t x = p at h hrx
      split at h
      · rename_i fd cs hfd
        split at h
        · rename_i v hv
          obtain ⟨l, hx, hl, hs, hr⟩ := agg_of hrx rfl
          obtain ⟨yf, hyf⟩ := ofCells_some hv
          obtain ⟨u, hu, hru, _⟩ := partV_run hc hv hl hs hr hyf
          refine .pure hS h (u := u) ?_ hru.cut (leaf3_cut _ _)
          simp only [execOp, Instr.field, Sem.run_bind, run_underlying hund, Result.andThen_ok, hfd, hx, asAgg, Sem.run_pure, hu]
        · cases h
      · cases h
  case indexAddr t x i =>
    have hrx := opd_rep hS t x
    have hri := opd_rep hS 0 i
    generalize hg : opd c S t x = p at h hrx
    generalize hgi : opd c S 0 i = pi at h hri
    split at h
    · rename_i e tp xs k n
      split at h
      · rename_i e' he'
        split at h
        · rename_i hcnd
          simp only [Bool.and_eq_true, beq_iff_eq, decide_eq_true_eq] at hcnd
          obtain ⟨rfl, hz⟩ := hcnd
          obtain ⟨hn0, h⟩ := chk_some h
          obtain ⟨hn1, h⟩ := chk_some h
          have hn0 : 0 ≤ n := by simpa using hn0
          have hn1 : n < xs.length := by simpa using hn1
          have hi := int_of hri rfl
          obtain ⟨q, m, l, hx, hl, hr, hf, hs, hz', hcap, hq, hrow⟩ := lst_of hrx rfl
          have hund := elemOf_und he' hc
          obtain ⟨y, hy, hys⟩ := tySize_some (c := c) (t := e) (by omega)
          have hlt : n.toNat < xs.length := by omega
          cases q with
          | none => have := hq rfl; omega
          | some p =>
            obtain ⟨hsp, hrw⟩ := hrow p rfl (fun h0 => by rw [h0] at hlt; simp at hlt)
            obtain ⟨pb, po, ps⟩ := p
            simp only at hsp hrw; subst hsp
            have hxi : xs.getD n.toNat .bot = xs[n.toNat] := by simp [List.getD, List.getElem?_eq_getElem hlt]
            have hfe := hf xs[n.toNat] (List.getElem_mem hlt)
            have heta : etaE c e xs[n.toNat] = xs[n.toNat] := by
              exact (fitsE_of hfe).1
            have hli : l[n.toNat]? = some l[n.toNat] := List.getElem?_eq_getElem (by omega)
            have hre := hr n.toNat _ _ (List.getElem?_eq_getElem hlt) hli
            have hflat : ∀ j z, (l[n.toNat].cells.toList)[j]? = some z → (flat l)[n.toNat * tySize c e + j]? = some z := by
              intro j z hj
              refine flat_part hs (k := n.toNat) (m := n.toNat + 1) j z ?_
              have hone : (l.take (n.toNat + 1)).drop n.toNat = [l[n.toNat]] := by
                rw [List.drop_take, show n.toNat + 1 - n.toNat = 1 by omega, List.drop_eq_getElem_cons (by omega)]
                rfl
              rw [hone]
              simpa [flat] using hj
            have hsg : xs[n.toNat].cells.all V.single = true := (fitsE_of hfe).2
            obtain ⟨c1, c2, c3⟩ := cells_rep hre hsg
            rw [hxi, heta] at h
            refine .pure hS h (u := .pointer (some ⟨pb, po + n.toNat * tySize c e, none⟩)) ?_ (.cpt _ pb _ l[n.toNat].cells.toList (by simpa using c1) c2 c3 (fun j z hj => by
              have := hrw _ z (hflat j z hj)
              rwa [Nat.add_assoc])) (leaf3_nil_of_tips _ rfl)
            have hcond : 0 ≤ n ∧ n < (xs.length : Int) := ⟨hn0, hn1⟩
            simp only [execOp, Instr.indexAt, hi, hx, asIntOf, Sem.run_bind, Sem.run_pure, run_underlying hund, Result.andThen_ok, if_pos hcond, Sem.run_ite, (hc.ty _ _ hy).sizeOf, Addr.add_lit, hys]
        · cases h
      · cases h
    · cases h
  case index t x i =>
    have hrx := opd_rep hS 0 x
    have hri := opd_rep hS 0 i
    generalize hg : opd c S 0 x = p at h hrx
    generalize hgi : opd c S 0 i = pi at h hri
    split at h
    · rename_i s k n
      split at h
      · rename_i hst
        obtain ⟨hn0, h⟩ := chk_some h
        obtain ⟨hn1, h⟩ := chk_some h
        have hn0 : 0 ≤ n := by simpa using hn0
        have hn1 : n < s.length := by simpa using hn1
        have hi := int_of hri rfl
        have hx := str_of hrx rfl
        have hund := isStr_und hst hc
        refine .pure hS h (u := .int .u8 (s.getD n.toNat 0).toNat) ?_ (.int _ _) rfl
        have hlt : n.toNat < (⟨s.toArray⟩ : ByteArray).size := by simp [ByteArray.size]; omega
        have hget : (⟨s.toArray⟩ : ByteArray)[n.toNat]? = some (s.getD n.toNat 0) := by
          rw [ByteArray.getElem?_lt' _ _ hlt]
          have : n.toNat < s.length := by omega
          simp [List.getD, List.getElem?_eq_getElem this]
          rfl
        simp only [execOp, Instr.index, hi, hx, asIntOf, Sem.run_bind, Sem.run_pure, run_underlying hund, Result.andThen_ok, if_pos hn0, hget]
      · cases h
    · cases h
  case slice t x lo hi mx =>
    split at h
    · rename_i hcnd
      simp only [Bool.and_eq_true] at hcnd
      have h0 : ∀ o, Rep c w G μ (opd c S 0 o) (a.eval o) := fun o => opd_rep hS 0 o
      obtain ⟨v, u, hk, hrun, hrep, htip⟩ := sliceV_ok hc h0 (opd_rep hS t x) hcnd.1.1 hcnd.1.2 hcnd.2 h
      refine .pure hS hk (u := u) ?_ hrep (leaf3_nil_of_tips _ htip)
      simp only [execOp, Sem.run_bind, hrun, Result.andThen_ok, Sem.run_pure]
    · cases h
  case extract x n =>
    have hrx := opd_rep hS 0 x
    generalize hg : opd c S 0 x = p at h hrx
    split at h
    · rename_i cs
      split at h
      · rename_i hn
        obtain ⟨l, hx, hl, hr⟩ := tup_of hrx rfl
        have e1 : cs.getD n .bot = cs[n] := by simp [List.getD, List.getElem?_eq_getElem hn]
        have hln : l[n]? = some l[n] := List.getElem?_eq_getElem (by omega)
        rw [e1] at h
        refine .pure hS h (u := l[n]) ?_ (hr n _ _ (List.getElem?_eq_getElem hn) hln).cut (leaf3_cut _ _)
        have : l.toArray[n]? = some l[n] := by simp
        simp only [execOp, Instr.extract, hx, this, Sem.run_bind, Sem.run_pure, Result.andThen_ok]
      · cases h
    · cases h
  case makeFunc fn first caps =>
    refine .pure hS h (u := .func fn (first.map a.eval) (caps.map a.eval)) (by simp [execOp, Instr.makeFunc]) ?_ (leaf3_nil_of_tips _ rfl)
    have := Rep.clo (c := c) (w := w) (G := G) (μ := μ) fn (first.toList.map fun x => (opd c S 0 x).cut) (caps.toList.map fun x => (opd c S 0 x).cut) (first.toList.map a.eval) (caps.toList.map a.eval) (by simp) (by simp)
      (fun i v x hv hx => by
        obtain ⟨o1, h1, rfl⟩ := get_map hv
        obtain ⟨o2, h2, rfl⟩ := get_map hx
        rw [h1] at h2; cases h2
        exact (opd_rep hS 0 o1).cut)
      (fun i v x hv hx => by
        obtain ⟨o1, h1, rfl⟩ := get_map hv
        obtain ⟨o2, h2, rfl⟩ := get_map hx
        rw [h1] at h2; cases h2
        exact (opd_rep hS 0 o1).cut)
    have e1 : (first.toList.map a.eval).toArray = first.map a.eval := by apply Array.ext'; simp
    have e2 : (caps.toList.map a.eval).toArray = caps.map a.eval := by apply Array.ext'; simp
    rw [e1, e2] at this
    exact this
  case makeMap t n =>
    split at h
    · rename_i kd vd hm
      obtain ⟨kt, et, dk, dv, hu, _⟩ := mapOf_und hc hm
      rw [newK_eq] at h
      refine .inl ⟨.map (some w.heap.size), w.alloc (.map #[] 0), ?_, _, _, _, _, h, hS.newMap kd vd⟩
      simp only [execOp, Instr.makeMap, Option.map_none, Sem.run_bind, Result.andThen_ok, Sem.run_pure, newObj, Sem.run]
      rfl
    · cases h
  case lookup t x i ok =>
    have hrx := opd_rep hS t x
    have hri := opd_rep hS 0 i
    generalize opd c S t x = p at h hrx
    generalize opd c S 0 i = q at h hri
    split at h
    · rename_i j kd vd k hm hk
      split at h
      · rename_i kd' vd' es hob
        split at h
        · rename_i hcnd
          simp only [Bool.and_eq_true, beq_iff_eq] at hcnd
          obtain ⟨⟨rfl, rfl⟩, hkd⟩ := hcnd
          obtain ⟨kt, et, dk, dv, hu, huk, hdk, hsk, huv, hdv⟩ := mapOf_und hc hm
          have hobs := St.mp_get hob
          obtain ⟨b, hb, hX⟩ := mref_of hrx rfl
          have hI := sc_of hri hk
          obtain ⟨⟨l, n, hheap, hl⟩, hes⟩ := hS.inv.obs j _ b hobs hb
          have hget : (getObj b).run c.P w = .ok (.map l n) w := by simp [getObj, Sem.run, hheap]
          have hfk := run_findKey (P := c.P) w huk hdk hkd hl (fun p hp => (hes p hp).1)
          have hmain : ∃ u f, (Instr.lookup t (a.eval x) (a.eval i) ok).run c.P w = .ok (if ok then .tuple #[u, .bool f] else u) w ∧ Rep c w G μ (mval vd k es) u ∧ f = mhas k es := by
            cases hmi : midx k es 0 with
            | none =>
              have hn : mget k es = none := by rw [midx_get k es 0, hmi]; rfl
              obtain ⟨z, hz, hzr⟩ := zero_sk hc w hsk k es hn
              refine ⟨z, false, ?_, hzr G μ, by simp [mhas, hn]⟩
              simp only [Instr.lookup, hX, hI, Sem.run_bind, run_underlying hu, Result.andThen_ok, hget, Sem.run_pure, run_checkKey w huk hdk, hfk, hmi, Option.map_none, hz]
            | some p =>
              have hn : mget k es = some p.2 := by rw [midx_get k es 0, hmi]; rfl
              obtain ⟨e1, e2⟩ := mval_rep (c := c) (w := w) (G := G) (μ := μ) k es vd (fun p hp => (hes p hp).2) hn
              refine ⟨p.2.val, true, ?_, by rw [e1]; exact e2, by simp [mhas, hn]⟩
              simp only [Instr.lookup, hX, hI, Sem.run_bind, run_underlying hu, Result.andThen_ok, hget, Sem.run_pure, run_checkKey w huk hdk, hfk, hmi, Option.map_some]
          obtain ⟨u, f, hrun, hru, rfl⟩ := hmain
          have hlm : ∀ y, leaf3 (mval vd k es) y = [] := by intro y; cases vd <;> cases y <;> rfl
          refine .pure hS h (u := if ok then .tuple #[u, .bool (mhas k es)] else u) ?_ ?_ ?_
          · simp only [execOp, hrun, Sem.run_bind, Result.andThen_ok, Sem.run_pure]
          · cases ok
            · exact hru
            · refine .tup _ [u, .bool (mhas k es)] rfl fun j v y hv hy => ?_
              match j with
              | 0 => simp at hv hy; subst hv; subst hy; exact hru
              | 1 => simp at hv hy; subst hv; subst hy; exact .bool _
              | j + 2 => simp at hv
          · cases ok
            · exact hlm _
            · cases vd <;> rfl
        · cases h
      · cases h
    · cases h
  case mapUpdate t x i v =>
    have hrx := opd_rep hS t x
    have hri := opd_rep hS 0 i
    have hrv := opd_rep hS 0 v
    generalize opd c S t x = p at h hrx
    generalize opd c S 0 i = q at h hri
    generalize opd c S 0 v = q' at h hrv
    split at h
    · rename_i j kd vd k u hm hk hv
      split at h
      · rename_i kd' vd' es hob
        split at h
        · rename_i hcnd
          simp only [Bool.and_eq_true, beq_iff_eq] at hcnd
          obtain ⟨⟨⟨rfl, rfl⟩, hkd⟩, hvd⟩ := hcnd
          obtain ⟨kt, et, dk, dv, hu, huk, hdk, _, huv, hdv⟩ := mapOf_und hc hm
          have hobs := St.mp_get hob
          obtain ⟨b, hb, hX⟩ := mref_of hrx rfl
          have hI := sc_of hri hk
          have hV := sc_of hrv hv
          obtain ⟨⟨l, n, hheap, hl⟩, hes⟩ := hS.inv.obs j _ b hobs hb
          have hget : (getObj b).run c.P w = .ok (.map l n) w := by simp [getObj, Sem.run, hheap]
          have hfk := run_findKey (P := c.P) w huk hdk hkd hl (fun p hp => (hes p hp).1)
          have hset : ∀ o, (setObj b o).run c.P w = .ok () (blk w b o) := by intro o; simp [setObj, Sem.run, hheap, blk]
          have hbl := heap_lt hheap
          rw [setObK_eq] at h
          have hput := midx_put k u es 0
          have hmain : ∃ l' n', (Instr.mapUpdate t (a.eval x) (a.eval i) (a.eval v)).run c.P w = .ok () (blk w b (.map l' n')) ∧ l'.toList.map (fun e => (e.key, e.val)) = (mput k u es).map (fun p => (p.1.val, p.2.val)) ∧
              ∀ p ∈ mput k u es, p.1.kind = kd ∧ p.2.kind = vd := by
            cases hmi : midx k es 0 with
            | none =>
              rw [hmi] at hput
              refine ⟨l.push { key := k.val, val := u.val, born := n }, n + 1, ?_, ?_, fun p hp => ?_⟩
              · simp only [Instr.mapUpdate, hX, hI, hV, Sem.run_bind, run_underlying hu, Result.andThen_ok, hget, run_checkKey w huk hdk, hfk, hmi, Option.map_none, hset]
              · rw [hput]; simp [hl]
              · rw [hput, List.mem_append] at hp
                rcases hp with hp | hp
                · exact hes p hp
                · simp at hp; subst hp; exact ⟨hkd, hvd⟩
            | some m =>
              rw [hmi] at hput
              obtain ⟨n', k', v', e1, e2, e3, e4⟩ := hput
              have hlm : l.toList[n']?.map (fun e => (e.key, e.val)) = some (k'.val, v'.val) := by
                have := congrArg (fun q => q[n']?) hl
                simpa [List.getElem?_map, e2] using this
              obtain ⟨e, he, hee⟩ := Option.map_eq_some_iff.1 hlm
              have he' : l[n']? = some e := by simpa using he
              have hm1 : m.1 = n' := by omega
              have hkk : k'.kind = kd := (hes (k', v') (List.mem_of_getElem? e2)).1
              have hsb : Instr.sameBits 10000 (((l[n']?).map (·.key)).getD k.val) k.val = true := by
                rw [he']
                simp only [Option.map_some, Option.getD_some]
                have : e.key = k'.val := congrArg Prod.fst hee
                rw [this]
                exact sameBits_val _ k k' e3 (by rw [hkd, hkk])
              refine ⟨l.modify n' fun e => { e with key := k.val, val := u.val }, n, ?_, ?_, fun p hp => ?_⟩
              · simp only [Instr.mapUpdate, hX, hI, hV, Sem.run_bind, run_underlying hu, Result.andThen_ok, hget, run_checkKey w huk hdk, hfk, hmi, Option.map_some, hm1, Instr.keyThatStays, hsb, if_true, Sem.run_pure, hset]
              · rw [e4]
                apply List.ext_getElem?
                intro r
                rw [List.getElem?_map, List.getElem?_map]
                by_cases hr : n' = r
                · subst hr
                  have hlt : n' < es.length := (List.getElem?_eq_some_iff.1 e2).1
                  rw [List.getElem?_set_self hlt]
                  simp [Array.getElem?_modify, he']
                · rw [List.getElem?_set_ne hr]
                  have := congrArg (fun q => q[r]?) hl
                  simp only [List.getElem?_map] at this
                  simpa [Array.getElem?_modify, hr] using this
              · rw [e4] at hp
                rcases List.mem_or_eq_of_mem_set hp with hp | hp
                · exact hes p hp
                · subst hp; exact ⟨hkd, hvd⟩
          obtain ⟨l', n', hrun, hl', hes'⟩ := hmain
          have hs : Sim c E (blk w b (.map l' n')) G μ S.env a.tmps.toList (S.objs.set j (.mp kd vd (mput k u es))) := by
            refine hS.reob hobs hb (fun k hk => blk_other hk) blk_size rfl rfl rfl hS.inv.len hS.inv.rep ⟨⟨l', n', blk_same hbl, hl'⟩, hes'⟩ (fun q => ?_) (fun l hl => hl)
            exact Nat.le_refl _
          refine .inr (.inl ⟨blk w b (.map l' n'), ?_, _, _, G, μ, h, hs.push (.bot _) (leaf3_bot _)⟩)
          simp only [execOp, hrun, Sem.run_bind, Result.andThen_ok, Sem.run_pure]
        · cases h
      · cases h
    · cases h
  case range t x =>
    have hrx := opd_rep hS t x
    generalize opd c S t x = p at h hrx
    split at h
    · rename_i s
      split at h
      · rename_i hst
        rw [newK_eq] at h
        have hX := str_of hrx rfl
        refine .inl ⟨.pointer (some ⟨w.heap.size, 0, none⟩), w.alloc (.stringIter ⟨s.toArray⟩ 0), ?_, _, _, _, _, h, hS.newSit s⟩
        simp only [execOp, Instr.range, hX, Sem.run_bind, run_underlying (isStr_und hst hc), Result.andThen_ok, Sem.run_pure, newObj, Sem.run]
        rfl
      · cases h
    · cases h
  case next it str =>
    have hri := opd_rep hS 0 it
    generalize opd c S 0 it = p at h hri
    split at h
    · rename_i i off
      split at h
      · rename_i hcnd
        simp only [Bool.and_eq_true, beq_iff_eq] at hcnd
        obtain ⟨rfl, rfl⟩ := hcnd
        split at h
        · rename_i s pos hob
          have hobs := St.sit_get hob
          obtain ⟨b, hb, hX⟩ := ref_of hri rfl
          obtain ⟨n, rfl, hheap⟩ := hS.inv.obs i _ b hobs hb
          have hsz : (⟨s.toArray⟩ : ByteArray).size = s.length := by simp [ByteArray.size]
          simp only [Int.toNat_natCast] at h
          have hget : (getObj b).run c.P w = .ok (.stringIter ⟨s.toArray⟩ n) w := by simp [getObj, Sem.run, hheap]
          have hset : ∀ o, (setObj b o).run c.P w = .ok () (blk w b o) := by intro o; simp [setObj, Sem.run, hheap, blk]
          split at h
          · rename_i hlt
            rw [setObK_eq] at h
            have hbl := heap_lt hheap
            have hs : Sim c E (blk w b (.stringIter ⟨s.toArray⟩ (n + (Utf8.decode ⟨s.toArray⟩ n).2))) G μ S.env a.tmps.toList (S.objs.set i (.sit s ((n + (Utf8.decode ⟨s.toArray⟩ n).2 : Nat) : Int))) := by
              refine hS.reob hobs hb (fun k hk => blk_other hk) blk_size rfl rfl rfl hS.inv.len hS.inv.rep ⟨_, rfl, blk_same hbl⟩ (fun q => ?_) (fun l hl => hl)
              exact Nat.le_refl _
            refine .inl ⟨.tuple #[.bool true, goInt n, .int .i32 (Utf8.decode ⟨s.toArray⟩ n).1], blk w b (.stringIter ⟨s.toArray⟩ (n + (Utf8.decode ⟨s.toArray⟩ n).2)), ?_, _, _, G, μ, h, ?_⟩
            · simp only [execOp, Instr.next, hX, Sem.run_bind, hget, Result.andThen_ok, hsz, if_pos hlt, Sem.run_pure, hset]
            · refine hs.push (.tup _ [.bool true, goInt n, .int .i32 (Utf8.decode ⟨s.toArray⟩ n).1] rfl fun j v x hv hx => ?_) rfl
              match j with
              | 0 => simp at hv hx; subst hv; subst hx; exact .bool _
              | 1 => simp at hv hx; subst hv; subst hx; exact .int _ _
              | 2 => simp at hv hx; subst hv; subst hx; exact .int _ _
              | j + 3 => simp at hv
          · rename_i hlt
            refine .pure hS h (u := .tuple #[.bool false]) ?_ (.tup _ [.bool false] rfl fun j v x hv hx => ?_) rfl
            · simp only [execOp, Instr.next, hX, Sem.run_bind, hget, Result.andThen_ok, hsz, if_neg hlt, Sem.run_pure]
            · match j with
              | 0 => simp at hv hx; subst hv; subst hx; exact .bool _
              | j + 1 => simp at hv
        · cases h
      · cases h
    · cases h
  all_goals cases h
end
end Go.Ev
