/- What the rows of this seat ask of a law besides its walk: the listed tables in a world of the witness, and the call's frame. -/
import Derived.Test.YtmhhcoccfojiiaaDoorCards
import Derived.Test.YtmhhcoccfojiiaaDoorTie
import Derived.Test.YtmhhcoccfojiiaaDoorEvW
import Derived.Test.YtmhhcoccfojiiaaDoorTac
import Derived.Test.YtmhhcoccfojiiaaDoorHand
import Derived.WalkKit
import Derived.ProofKit
import Derived.OpenShut
import Derived.Deep.DeepHandedRow
namespace Go.Proofs.YtmhhcoccfojiiaaDoor
open Go.ChangeShapes Go.WideShapes Go.ChangeAt Go.RowKit Go.Ev

theorem own : ownKnob Tryd.prog.godebug = none := by kernel_rfl

/-- A table's cells, off its datum. -/
def litCells : DataW Unit → List Value
  | .lit (.int k n) => [.int k n]
  | _ => []
def rowCells : DataW Unit → List Value
  | .agg ps => ps.flatMap litCells
  | d => litCells d
def tabCells : DataW Unit → List Value
  | .agg ps => ps.flatMap rowCells
  | d => litCells d
def layCells (cs : List Value) : Obj → Obj
  | .cells _ t frozen => .cells cs.toArray t frozen
  | o => o
noncomputable def laidWorld (os : Os) : World :=
  { World.holding Tryd.prog os ⟨#[], #[], []⟩ with
    heap := ((World.holding Tryd.prog os ⟨#[], #[], []⟩).heap.modify 2 (layCells (tabCells Rows.laid_unicode_utf8_acceptRanges))).modify 1 (layCells (tabCells Rows.laid_unicode_utf8_first)) }

/-- A function by hand: its answer leads to no object. -/
theorem funOk_of {c : Cfg} {f : FuncId} {F : Go.Ev.Fun}
    (h : ∀ args objs v objs', F args objs = some (v, objs') → objs = [] ∧ objs' = [] ∧ ∀ fn rsh, c.fn f = some fn → rshOf c fn (c.rtip f) = some rsh → fitsRes rsh v = true ∧
      ∀ (w : World) (G : Gh) (cargs : List Value), (∀ b, w.heap.size ≤ b → G b = 0) → cargs.length = args.length → (∀ (i : Nat) v x, args[i]? = some v → cargs[i]? = some x → Rep c w G [] v x) →
        Calls c.P f cargs.toArray w fun e w' => ∃ u G', e = .returned u ∧ WExt w G w' G' ∧ Rep c w' G' [] v u ∧ leaf3 v u = []) : FunOk c f F := by
  refine ⟨fun args objs v objs' _ hF => ?_, fun fn rsh hfn hrsh args objs v objs' hF w G μ cargs hlen hinv => ?_⟩
  · obtain ⟨rfl, rfl, _⟩ := h args objs v objs' hF; rfl
  · obtain ⟨rfl, rfl, hh⟩ := h args objs v objs' hF
    obtain ⟨h1, h2⟩ := hh fn rsh hfn hrsh
    have hμ : μ = [] := List.eq_nil_of_length_eq_zero hinv.olen.symm
    subst hμ
    refine ⟨h1, rfl, (h2 w G cargs hinv.none hlen hinv.rep).mono ?_⟩
    rintro e w' ⟨u, G', rfl, hx, hr, hl⟩
    refine ⟨u, G', rfl, ?_⟩
    have hsim0 : Sim c (entry w G [] args cargs []) w G [] args cargs [] :=
      ⟨hinv, ⟨Nat.le_refl _, Seal.refl w G, fun _ _ _ => ⟨rfl, rfl⟩, rfl, rfl, rfl⟩, fun b _ h => h, [], by simp [entry]⟩
    exact ((hsim0.ext hx).push hr hl).firsts (fr := [v]) (cfr := [u]) rfl

/-- A byte's small letter. -/
def low8 (b : UInt8) : UInt8 := UInt8.ofNat (lowI b.toNat).toNat
/-- chars.Fold. -/
def foldF : Go.Ev.Fun
  | [.str s], [] => if s.length < 4294967281 then some (.str (s.map low8), []) else none
  | _, _ => none
/-- stringslite.Index at a byte. -/
def idxF : Go.Ev.Fun
  | [.str s, .str [b]], [] => some (.int .i64 (Lib.indexByte s b), [])
  | _, _ => none
/-- A text's parts between bytes of a kind, so many at most. -/
def cutK (b : UInt8) : Nat → List UInt8 → List (List UInt8)
  | 0, s => [s]
  | k + 1, s => if Lib.indexByte s b = -1 then [s] else s.take (Lib.indexByte s b).toNat :: cutK b k (s.drop ((Lib.indexByte s b).toNat + 1))
/-- strings.SplitN at a byte. -/
def splitF : Go.Ev.Fun
  | [.str s, .str [b], .int k n], [] => if k = .i64 ∧ 0 < n ∧ n < 1000 ∧ s.length < 4294967281 then some (.lst 9 false ((cutK b (min n.toNat (s.length + 1) - 1) s).map V.str), []) else none
  | _, _ => none

/-- The configuration: contracts of the functions that the plain reading does not cover. -/
noncomputable def hand (f : FuncId) : Option Go.Ev.Fun := if f = 17 then some foldF else if f = 53 then some splitF else if f = 51 then some idxF else none
/-- Functions that leave all objects as they are: comment, at. -/
def ro (f : FuncId) : Bool := f == 30 || f == 32
/-- Functions whose arguments lead to no objects. -/
def pur (f : FuncId) : Bool := f == 10 || f == 11 || f == 12 || f == 13 || f == 14 || f == 15
noncomputable def cfg : Cfg := cfgOf hand (fun _ _ => false) (fun _ => false) ro pur
theorem cfg_ok : CfgOk cfg := cfgOk _ _ _ _ _ (by
  intro f x hf hx b hb
  simp only [ro, Bool.or_eq_true, beq_iff_eq] at hf
  rcases hf with rfl | rfl
  · have h0 : fnT 30 = some Tryd.f30 := by kernel_rfl
    rw [h0] at hx; cases hx
    have h1 : (match Tryd.f30.body with | some b => roCode (cfgOf hand (fun _ _ => false) (fun _ => false) ro pur) b | none => true) = true := by kernel_rfl
    rw [hb] at h1; exact h1
  · have h0 : fnT 32 = some Tryd.f32 := by kernel_rfl
    rw [h0] at hx; cases hx
    have h1 : (match Tryd.f32.body with | some b => roCode (cfgOf hand (fun _ _ => false) (fun _ => false) ro pur) b | none => true) = true := by kernel_rfl
    rw [hb] at h1; exact h1)
theorem str_at {c : Cfg} {w : World} {G : Gh} {args : List V} {cargs : List Value} (hr : ∀ (i : Nat) v x, args[i]? = some v → cargs[i]? = some x → Rep c w G [] v x) (hl : cargs.length = args.length) {i : Nat} {s : List UInt8}
    (h : args[i]? = some (.str s)) : cargs[i]? = some (.string ⟨s.toArray⟩) := by
  have hi := (List.getElem?_eq_some_iff.1 h).1
  have hx := List.getElem?_eq_getElem (l := cargs) (i := i) (by omega)
  rw [hx, str_of (hr i _ _ h hx) rfl]
theorem int_at {c : Cfg} {w : World} {G : Gh} {args : List V} {cargs : List Value} (hr : ∀ (i : Nat) v x, args[i]? = some v → cargs[i]? = some x → Rep c w G [] v x) (hl : cargs.length = args.length) {i : Nat} {k : IntKind} {n : Int}
    (h : args[i]? = some (.int k n)) : cargs[i]? = some (.int k n) := by
  have hi := (List.getElem?_eq_some_iff.1 h).1
  have hx := List.getElem?_eq_getElem (l := cargs) (i := i) (by omega)
  rw [hx, int_of (hr i _ _ h hx) rfl]

theorem fold_ok : FunOk cfg 17 foldF := by
  refine funOk_of fun args objs v objs' hF => ?_
  unfold foldF at hF
  split at hF
  · rename_i s
    split at hF
    · rename_i hs
      cases hF
      refine ⟨rfl, rfl, fun fn rsh hfn hrsh => ?_⟩
      have h1 : cfg.fn 17 = some Tryd.f17 := by kernel_rfl
      have h2 : rshOf cfg Tryd.f17 (cfg.rtip 17) = some [⟨false, [.str]⟩] := by kernel_rfl
      rw [h1] at hfn; cases hfn
      rw [h2] at hrsh; cases hrsh
      refine ⟨rfl, fun w G cargs hn hl hr => ?_⟩
      have e0 := str_at hr hl (i := 0) rfl
      match cargs, hl, e0 with
      | [x], _, e0 =>
        simp at e0; subst e0
        have := fold_c ⟨s.toArray⟩ w (by simpa [ByteArray.size] using hs)
        refine this.mono ?_
        rintro e w' ⟨rfl, hf⟩
        refine ⟨_, G, rfl, ⟨by have := hf.size; omega, fun b hb => ⟨hf.old b hb, rfl⟩, fun b hb => hn b (by have := hf.size; omega), hf.os, hf.out, hf.tape⟩, ?_, rfl⟩
        exact .str _
    · cases hF
  · cases hF

theorem idx_ok : FunOk cfg 51 idxF := by
  refine funOk_of fun args objs v objs' hF => ?_
  unfold idxF at hF
  split at hF
  · rename_i s b
    cases hF
    · refine ⟨rfl, rfl, fun fn rsh hfn hrsh => ?_⟩
      have h1 : cfg.fn 51 = some Tryd.f51 := by kernel_rfl
      have h2 : rshOf cfg Tryd.f51 (cfg.rtip 51) = some [⟨false, [.int .i64]⟩] := by kernel_rfl
      rw [h1] at hfn; cases hfn
      rw [h2] at hrsh; cases hrsh
      refine ⟨rfl, fun w G cargs hn hl hr => ?_⟩
      have e0 := str_at hr hl (i := 0) rfl
      have e1 := str_at hr hl (i := 1) rfl
      match cargs, hl, e0, e1 with
      | [x, y], _, e0, e1 =>
        simp at e0 e1; subst e0; subst e1
        refine (index_c ⟨s.toArray⟩ b w).mono ?_
        rintro e w' ⟨rfl, rfl⟩
        exact ⟨_, G, rfl, ⟨Nat.le_refl _, fun b hb => ⟨rfl, rfl⟩, hn, rfl, rfl, rfl⟩, .int _ _, rfl⟩
  · cases hF

theorem cutK_split (b : UInt8) : ∀ (k : Nat) (s : List UInt8), Lib.splitK [b] 0 k s = cutK b k s
  | 0, s => rfl
  | k + 1, s => by
    simp only [Lib.splitK, cutK, index_byte, cutK_split b k, Nat.add_zero, List.length_singleton]
    by_cases h : Lib.indexByte s b = -1
    · simp [h]
    · simp [h]

theorem split_ok : FunOk cfg 53 splitF := by
  refine funOk_of fun args objs v objs' hF => ?_
  unfold splitF at hF
  split at hF
  · rename_i s b k n
    split at hF
    · rename_i hk
      obtain ⟨rfl, hn0, hn1, hs⟩ := hk
      cases hF
      refine ⟨rfl, rfl, fun fn rsh hfn hrsh => ?_⟩
      have h1 : cfg.fn 53 = some Tryd.f53 := by kernel_rfl
      have h2 : rshOf cfg Tryd.f53 (cfg.rtip 53) = some [⟨false, [.lst 9 false]⟩] := by kernel_rfl
      rw [h1] at hfn; cases hfn
      rw [h2] at hrsh; cases hrsh
      refine ⟨rfl, fun w G cargs hn hl hr => ?_⟩
      have e0 := str_at hr hl (i := 0) rfl
      have e1 := str_at hr hl (i := 1) rfl
      have e2 := int_at hr hl (i := 2) rfl
      match cargs, hl, e0, e1, e2 with
      | [x, y, z], _, e0, e1, e2 =>
        simp at e0 e1 e2; subst e0; subst e1; subst e2
        have hsz : (⟨s.toArray⟩ : ByteArray).size = s.length := by simp [ByteArray.size]
        generalize hN : min n.toNat (s.length + 1) = N
        have := splitN_c ⟨s.toArray⟩ b n N w (by rw [hsz]; exact hs) hn0 (by omega) (by rw [hsz]; omega)
        refine this.mono ?_
        rintro e w' ⟨rfl, rfl⟩
        generalize hps : Lib.splitB ⟨#[b]⟩ 0 (N - 1) ⟨s.toArray⟩ = ps
        have hdata : ps.map (fun p => p.data.toList) = cutK b (N - 1) s := by
          rw [← hps, Lib.splitB_data, ← cutK_split]
        have hle : ps.length ≤ N := by
          rw [← hps]
          have := Lib.splitB_length_le ⟨#[b]⟩ 0 (N - 1) ⟨s.toArray⟩
          omega
        have hsz9 : tySize cfg 9 = 1 := by kernel_rfl
        have hx : WExt w G (w.alloc (.cells (Lib.cellsOf ps N) 9)) (fun k => if k = w.heap.size then ps.length else G k) := by
          refine ⟨by simp, fun b hb => ⟨?_, by simp [Nat.ne_of_lt hb]⟩, fun b hb => ?_, rfl, rfl, rfl⟩
          · show (w.heap.push _)[b]? = _
            rw [Array.getElem?_push_lt hb, Array.getElem?_eq_getElem hb]
          · have hb' : w.heap.size + 1 ≤ b := by simpa using hb
            have : b ≠ w.heap.size := by omega
            simp [this, hn b (by omega)]
        refine ⟨_, _, rfl, hx, ?_, rfl⟩
        have hvs : (cutK b (N - 1) s).map V.str = ps.map fun p => V.str p.data.toList := by rw [← hdata, List.map_map]; rfl
        rw [hvs]
        have hlen : ps.length = (ps.map fun p => V.str p.data.toList).length := by simp
        have hfl : flat (ps.map Value.string) = ps.map Value.string := by
          clear hvs hlen hx hle hdata hps
          induction ps with
          | nil => rfl
          | cons p ps ih => simp only [flat, List.map_cons, List.flatMap_cons, Value.cells] at ih ⊢; rw [ih]; rfl
        rw [hlen]
        refine .lst 9 false _ _ N (ps.map Value.string) (by simp) (fun i v x hv hx => ?_) (fun v hv => ?_) (fun x hx => ?_) (by rw [hsz9]; omega) (by simpa using hle) (fun h => by cases h) (fun p hp _ => ?_)
        · obtain ⟨p, h1, rfl⟩ := get_map hv
          obtain ⟨p', h2, rfl⟩ := get_map hx
          rw [h1] at h2; cases h2
          exact .str _
        · obtain ⟨p, _, rfl⟩ := List.mem_map.1 hv
          have h9 : cfg.ty 9 = tyT 9 := rfl
          have : ∀ q : List UInt8, fitsE cfg 9 (.str q) = true := by intro q; kernel_rfl
          exact this _
        · obtain ⟨p, _, rfl⟩ := List.mem_map.1 hx
          rw [hsz9]; rfl
        · cases hp
          refine ⟨rfl, fun j x hj => ?_⟩
          rw [hfl] at hj
          have hjl : j < ps.length := by have := (List.getElem?_eq_some_iff.1 hj).1; simpa using this
          refine ⟨?_, by simp; omega⟩
          have hnew : (w.alloc (.cells (Lib.cellsOf ps N) 9)).heap[w.heap.size]? = some (.cells (Lib.cellsOf ps N) 9) := by show (w.heap.push _)[w.heap.size]? = _; simp
          simp only [World.cell?, hnew, Nat.zero_add]
          have : (Lib.cellsOf ps N)[j]? = some x := by
            unfold Lib.cellsOf
            rw [List.getElem?_toArray, List.getElem?_append_left (by simpa using hjl)]
            exact hj
          simpa using this
    · cases hF
  · cases hF

theorem hand_ok : ∀ f h, cfg.hand f = some h → FunOk cfg f h := by
  intro f h hf
  have hf : hand f = some h := hf
  unfold hand at hf
  split at hf
  · rename_i e; subst e; cases hf; exact fold_ok
  · split at hf
    · rename_i e; subst e; cases hf; exact split_ok
    · split at hf
      · rename_i e; subst e; cases hf; exact idx_ok
      · cases hf
end Go.Proofs.YtmhhcoccfojiiaaDoor
