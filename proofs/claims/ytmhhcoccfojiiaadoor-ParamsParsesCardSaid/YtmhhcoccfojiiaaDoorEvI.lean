/- The model's runs of the operations on lists and memory. -/
import Derived.Test.YtmhhcoccfojiiaaDoorEvH
import Derived.Laws.BytesString
import Derived.Lib.ConvBytes
namespace Go.Ev

section
variable {c : Cfg} {E : Ent} {w w' : World} {G G' : Gh} {μ : List Nat} {env env' : List V} {tmps tmps' : List Value} {objs : List Ob}

/-- What is appended, and how the model reads it. -/
structure Src (c : Cfg) (w : World) (e xt : TypeId) (X : Value) (n : Nat) (fl : List Value) : Prop where
  ty : ∃ d, c.P.underlying xt = some d ∧ ∀ k, d ≠ .int k
  len : Builtin.lenOf X = Pure.pure n
  run : ∀ w2 : World, (∀ b o, w.cell? ⟨b, o, none⟩ ≠ none → w2.cell? ⟨b, o, none⟩ = w.cell? ⟨b, o, none⟩) → (Builtin.firstCells (tySize c e) n X).run c.P w2 = .ok fl.toArray w2

theorem Src.of_lst (hc : CfgOk c) {e xt : TypeId} {ys : List V} {t : Bool} {X : Value} (h : Rep c w G μ (.lst e t ys) X) (hxt : elemOf c xt = some e) :
    ∃ l : List Value, l.length = ys.length ∧ (∀ (i : Nat) v x, ys[i]? = some v → l[i]? = some x → Rep c w G [] v x) ∧ (∀ v ∈ ys, fitsE c e v = true) ∧ (∀ x ∈ l, x.cells.size = tySize c e) ∧
      Src c w e xt X ys.length (flat l) := by
  cases h with
  | lst _ _ _ a cap l hl hr hf hs hz hcap ha hrow =>
    refine ⟨l, hl, hr, hf, hs, ?_, rfl, fun w2 hw2 => ?_⟩
    · unfold elemOf at hxt
      split at hxt
      · rename_i hty
        exact ⟨_, (hc.ty _ _ hty).und, fun k => by simp⟩
      · cases hxt
    · have hfl : (flat l).length = ys.length * tySize c e := by rw [flat_length l hs, hl]
      cases a with
      | none =>
        have := ha rfl
        have h0 : ys.length = 0 := by omega
        have hl0 : l = [] := List.eq_nil_of_length_eq_zero (by omega)
        subst hl0
        simp [Builtin.firstCells, flat]
      | some p =>
        by_cases hne : ys = []
        · subst hne
          have hl0 : l = [] := List.eq_nil_of_length_eq_zero (by simpa using hl)
          subst hl0
          simp [Builtin.firstCells, flat, loadCells, loadCellsFrom]
        · obtain ⟨hsp, hr⟩ := hrow p rfl hne
          obtain ⟨pb, po, ps⟩ := p
          simp only at hsp; subst hsp
          simp only [Builtin.firstCells, ← hfl]
          exact run_loadCells_list w2 _ _ fun j v hj => by
            rw [Addr.add_lit, hw2 _ _ (by rw [(hr j v hj).1]; simp)]
            exact (hr j v hj).1

theorem ofBytes_rep (w : World) (G : Gh) : ∀ (s : List UInt8) (i : Nat) v x, (ofBytes s)[i]? = some v → (s.map fun b => Value.int .u8 b.toNat)[i]? = some x → Rep c w G [] v x := by
  intro s i v x hv hx
  obtain ⟨b, hb, rfl⟩ := get_map hv
  obtain ⟨b', hb', rfl⟩ := get_map hx
  rw [hb] at hb'; cases hb'
  exact .int _ _

theorem flat_ints (s : List UInt8) : flat (s.map fun b => Value.int .u8 b.toNat) = s.map fun b => Value.int .u8 b.toNat := by
  induction s with
  | nil => rfl
  | cons b s ih => simp only [flat, List.map_cons, List.flatMap_cons, Value.cells] at ih ⊢; rw [ih]; rfl

theorem isByte_ty {e : TypeId} (h : isByte c e = true) (hc : CfgOk c) : ∃ y, c.ty e = some y ∧ c.P.underlying e = some (.int .u8) ∧ y.size = 1 ∧ ∀ n, fitsE c e (.int .u8 n) = true := by
  unfold isByte at h
  split at h
  · rename_i d size bytes agg zero eq hy
    have hok := hc.ty _ _ hy
    have hag : agg = false := by have := hok.agg; simpa [isAggD] using this
    subst hag
    obtain ⟨i, hi, his, hib, z, hz, hzf, hza⟩ := hok.info
    have hzc : z.cells.toList.length = 1 := by
      cases z <;> simp_all [Value.cells]
    have hlen : ∀ (a : List V) (b : List Value), zfits c a b = true → a.length = b.length := by
      intro a
      induction a with
      | nil => intro b h; cases b <;> simp_all [zfits]
      | cons v a ih => intro b h; cases b with
        | nil => simp [zfits] at h
        | cons x b => simp only [zfits, Bool.and_eq_true] at h; simp [ih b h.2]
    have h1 := hlen _ _ hzf
    have h2 := hok.size
    refine ⟨_, hy, hok.und, by simp only at h1 h2 ⊢; omega, fun n => ?_⟩
    simp only [fitsE, hy, RSh.fits, Bool.false_eq_true, if_false, fitsCells, CSh.fits]
    decide
  · cases h

theorem isByte_size {e : TypeId} (h : isByte c e = true) (hc : CfgOk c) : tySize c e = 1 ∧ ∀ s, ∀ v ∈ ofBytes s, fitsE c e v = true := by
  obtain ⟨y, hy, _, h1, h2⟩ := isByte_ty h hc
  refine ⟨by simp [tySize, hy, h1], fun s v hv => ?_⟩
  obtain ⟨b, _, rfl⟩ := List.mem_map.1 hv
  exact h2 _

theorem Src.of_str (hc : CfgOk c) {e xt : TypeId} {t : List UInt8} (he : isByte c e = true) (hxt : isStr c xt = true) :
    Src c w e xt (.string ⟨t.toArray⟩) t.length (t.map fun b => Value.int .u8 b.toNat) := by
  have hsz : (⟨t.toArray⟩ : ByteArray).size = t.length := by simp [ByteArray.size]
  refine ⟨?_, by simp only [Builtin.lenOf, hsz], fun w2 _ => ?_⟩
  · unfold isStr at hxt
    split at hxt
    · rename_i hty
      exact ⟨_, (hc.ty _ _ hty).und, fun k => by simp⟩
    · cases hxt
  · have : (⟨t.toArray⟩ : ByteArray).extract 0 t.length = ⟨t.toArray⟩ := by
      rw [← hsz]; exact ByteArray.extract_zero_size
    simp [Builtin.firstCells, this]

/-- The append of the model is the plain one. -/
theorem append_run (hc : CfgOk c) {st xt ty e : TypeId} {xs ys : List V} {S X : Value} {l : List Value} {y : Ty} (hy : c.ty e = some y) (hst : elemOf c st = some e)
    (h : Sim c E w G μ (.lst e true xs :: env) (S :: tmps) objs) (hsrc : Src c w e xt X ys.length (flat l)) (hl : l.length = ys.length)
    (hr : ∀ (i : Nat) v x, ys[i]? = some v → l[i]? = some x → Rep c w G [] v x) (hf : ∀ v ∈ ys, fitsE c e v = true) (hs : ∀ x ∈ l, x.cells.size = tySize c e)
    (hb : (xs.length + ys.length) * (y.bytes + 1) ≤ 70368744177664) :
    ∃ u w' G', (Builtin.append_ #[st, xt] ty #[S, X]).run c.P w = .ok u w' ∧ Sim c E w' G' μ (.lst e true (xs ++ ys) :: env) (u :: tmps) objs := by
  have hsin := flat_single (w := w) (G := G) hl hr hf
  have hfl : (flat l).length = ys.length * tySize c e := by rw [flat_length l hs, hl]
  have hok := hc.ty e y hy
  have hsz : tySize c e = y.size := by simp [tySize, hy]
  have hund : c.P.underlying st = some (.slice e) := by
    unfold elemOf at hst
    split at hst
    · rename_i hty; cases hst; exact (hc.ty _ _ hty).und
    · cases hst
  obtain ⟨d, hd, hdi⟩ := hsrc.ty
  obtain ⟨i, hi, his, hib, z, hz, hzf, hza⟩ := hok.info
  have hbytes : (xs.length + ys.length) * y.bytes ≤ 70368744177664 := Nat.le_trans (Nat.mul_le_mul_left _ (Nat.le_succ _)) hb
  have hlenle : xs.length + ys.length ≤ 70368744177664 := Nat.le_trans (Nat.le_mul_of_pos_right _ (Nat.succ_pos _)) hb
  have hzeros : (match d with | .int _ => true | _ => false) = false := by
    cases d <;> first | rfl | exact absurd rfl (hdi _)
  have hrv := h.inv.rep 0 _ _ rfl rfl
  cases hrv with
  | lst _ _ _ a m lo hlo hro hfo hso hzo hco hao hrowo =>
  have hflo : (flat lo).length = xs.length * tySize c e := by rw [flat_length lo hso, hlo]
  by_cases hroom : xs.length + ys.length ≤ m
  · -- there is room
    by_cases hy0 : ys = []
    · subst hy0
      have hl0 : l = [] := List.eq_nil_of_length_eq_zero (by simpa using hl)
      subst hl0
      refine ⟨.slice a xs.length m, w, G, ?_, by simpa using h⟩
      have hrun := hsrc.run w (fun _ _ _ => rfl)
      simp only [List.length_nil] at hrun hroom
      simp only [Nat.add_zero] at hroom
      cases a with
      | none => simp [Builtin.append_, run_underlying hund, run_underlying hd, hok.sizeOf, hsrc.len, hroom, ← hsz, hrun, flat, hzeros]
      | some p => simp [Builtin.append_, run_underlying hund, run_underlying hd, hok.sizeOf, hsrc.len, hroom, ← hsz, hrun, flat, hzeros, storeCells]
    · cases a with
      | none =>
        have := hao rfl
        have hpos : 0 < ys.length := by cases ys with | nil => exact absurd rfl hy0 | cons _ _ => simp
        omega
      | some p =>
        obtain ⟨hsp, w1, G1, hst1, hsim⟩ := h.appendIn hl hy0 hroom hr hf hs hsin
        refine ⟨_, w1, G1, ?_, hsim⟩
        have hrun := hsrc.run w (fun _ _ _ => rfl)
        simp [Builtin.append_, run_underlying hund, run_underlying hd, hok.sizeOf, hsrc.len, hroom, ← hsz, hrun, hzeros, hst1]
  · -- a new row
    have hw2 : ∀ b o, w.cell? ⟨b, o, none⟩ ≠ none → w.drew.cell? ⟨b, o, none⟩ = w.cell? ⟨b, o, none⟩ := fun _ _ _ => rfl
    have hrun := hsrc.run w.drew hw2
    have hold : (Builtin.firstCells (tySize c e) xs.length (.slice a xs.length m)).run c.P w.drew = .ok (flat lo).toArray w.drew := by
      cases a with
      | none =>
        have := hao rfl
        have h0 : xs.length = 0 := by omega
        have hl0 : lo = [] := List.eq_nil_of_length_eq_zero (by omega)
        subst hl0
        simp [Builtin.firstCells, flat]
      | some p =>
        by_cases hne : xs = []
        · subst hne
          have hl0 : lo = [] := List.eq_nil_of_length_eq_zero (by simpa using hlo)
          subst hl0
          simp [Builtin.firstCells, flat, loadCells, loadCellsFrom]
        · obtain ⟨hsp, hr⟩ := hrowo p rfl hne
          obtain ⟨pb, po, ps⟩ := p
          simp only at hsp; subst hsp
          simp only [Builtin.firstCells, ← hflo]
          exact run_loadCells_list w.drew _ _ fun j v hj => by
            rw [Addr.add_lit]; exact (hr j v hj).1
    have hg := grownCap_ge w (xs.length + ys.length) m e
    have h63 : ¬ (9223372036854775807 < ((xs.length : Int) + (ys.length : Int))) := by omega
    have hfit := growslice_fits (bytes := i.bytes) (need := xs.length + ys.length) (old := m) (by omega) (by rw [hib]; omega)
    have h48 : ¬ (281474976710656 < Builtin.nextslicecap (xs.length + ys.length) m * i.bytes) := by omega
    have hzc : z.cells.size = y.size := by
      have : ∀ (a : List V) (b : List Value), zfits c a b = true → a.length = b.length := by
        intro a
        induction a with
        | nil => intro b h; cases b <;> simp_all [zfits]
        | cons v a ih => intro b h; cases b with
          | nil => simp [zfits] at h
          | cons x b => simp only [zfits, Bool.and_eq_true] at h; simp [ih b h.2]
      have := this _ _ hzf
      rw [hok.size] at this; simpa using this.symm
    have hrunA : (Builtin.append_ #[st, xt] ty #[.slice a xs.length m, X]).run c.P w =
        .ok (.slice (some ⟨w.heap.size, 0, none⟩) (xs.length + ys.length) (grownCap w (xs.length + ys.length) m e))
          (w.drew.alloc (.cells ((flat lo).toArray ++ (flat l).toArray ++ Builtin.zeroCells z.cells (grownCap w (xs.length + ys.length) m e - (xs.length + ys.length))) e)) := by
      rw [hsz] at hrun hold
      simp [Builtin.append_, run_underlying hund, run_underlying hd, hok.sizeOf, hsrc.len, hroom, hrun, hold, hzeros, typeInfo, zeroValue, hi, hz, h63, h48, Question.forced, newRow, grownCap]
      congr 2
      apply Array.ext'
      simp [List.append_assoc]
    refine ⟨_, _, fun k => if k = w.heap.size then (flat (lo ++ l)).length else G k, hrunA, ?_⟩
    have hx : WExt w G (w.drew.alloc (.cells ((flat lo).toArray ++ (flat l).toArray ++ Builtin.zeroCells z.cells (grownCap w (xs.length + ys.length) m e - (xs.length + ys.length))) e))
        (fun k => if k = w.heap.size then (flat (lo ++ l)).length else G k) :=
      (WExt.of_drew h.inv.none).trans (WExt.of_alloc (w := w.drew) h.inv.none _ _)
    have hseal := hx.sealed h.inv.none
    have hflA : (flat (lo ++ l)).length = (xs ++ ys).length * tySize c e := by rw [flat_append, List.length_append, hflo, hfl, List.length_append, Nat.add_mul]
    have := h.pop.newList hx (e := e) (t := true) (xs := xs ++ ys) (l := lo ++ l) (cap := grownCap w (xs.length + ys.length) m e)
      (cs := (flat lo).toArray ++ (flat l).toArray ++ Builtin.zeroCells z.cells (grownCap w (xs.length + ys.length) m e - (xs.length + ys.length))) (elem := e) (fr := (0, 0))
      (by show ((w.heap.push _)[w.heap.size]?) = _; simp) (by simp) (fun j x hj => by
        rw [flat_append] at hj
        have hlt := (List.getElem?_eq_some_iff.1 hj).1
        rw [Array.getElem?_append_left (by simpa using hlt)]
        simpa using hj)
      (by simp [hlo, hl]) (fun i v x hv hx => by
        by_cases hi : i < xs.length
        · rw [List.getElem?_append_left hi] at hv
          rw [List.getElem?_append_left (by omega)] at hx
          exact (hro i v x hv hx).mono hseal
        · rw [List.getElem?_append_right (by omega)] at hv hx
          rw [hlo] at hx
          exact (hr _ v x hv hx).mono hseal)
      (fun v hv => by rw [List.mem_append] at hv; exact hv.elim (hfo v) (hf v))
      (fun x hx => by rw [List.mem_append] at hx; exact hx.elim (hso x) (hs x))
      hzo (by simpa using hg) (by
        simp only [Array.size_append, List.size_toArray, size_zeroCells, hzc, hflo, hfl, hsz, ← Nat.add_mul]
        exact Nat.mul_le_mul_right _ (by omega))
      (fun o _ _ => by simp) hflA
    simpa using this
end
end Go.Ev
