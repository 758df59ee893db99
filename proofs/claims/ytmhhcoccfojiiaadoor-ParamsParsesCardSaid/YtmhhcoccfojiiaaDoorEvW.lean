/- From the plain reading to a row's contract. -/
import Derived.Test.YtmhhcoccfojiiaaDoorEvV
import Derived.ChangeSame
import Derived.RowKit3
namespace Go.Ev
open Go.ChangeShapes Go.WideShapes

/-- Every block that is there, as it is. -/
def sizes (w : World) : Gh := fun b => match w.heap[b]? with | some (.cells cs _ _) => cs.size | _ => 0

theorem sizes_none (w : World) (b : Nat) (h : w.heap.size ≤ b) : sizes w b = 0 := by
  unfold sizes; rw [Array.getElem?_eq_none h]

theorem srow_sizes {w : World} {b off : Nat} {l : List Value} (h : ∀ j x, l[j]? = some x → w.cell? ⟨b, off + j, none⟩ = some x) : SRow w (sizes w) b off l := by
  intro j x hx
  have hc := h j x hx
  refine ⟨hc, ?_⟩
  unfold World.cell? at hc
  unfold sizes
  split at hc
  · rename_i cs e fr hb
    simp only at hb
    rw [hb]
    simp only at hc ⊢
    exact (Array.getElem?_eq_some_iff.1 hc).1
  · cases hc

/-- All that was there is there. -/
structure Kept (W w' : World) : Prop where
  size : W.heap.size ≤ w'.heap.size
  heap : ∀ b, b < W.heap.size → w'.heap[b]? = W.heap[b]?
  os : w'.os = W.os
  out : w'.output = W.output

theorem Kept.but {W w' : World} (h : Kept W w') (may : MemPlace → Prop) : W.keptBut w' may := by
  refine ⟨h.os, h.out, fun i hi => ?_⟩
  rw [h.heap i hi]
  split
  · rename_i h1 h2
    rw [h1] at h2; cases h2
    exact ⟨rfl, rfl, rfl, fun _ _ => rfl⟩
  · rename_i h1 h2
    rw [h1] at h2; cases h2
    exact .inr ⟨rfl, rfl⟩
  · rfl
theorem Kept.frozen {W w' : World} (h : Kept W w') (a : Addr) (ha : a.block < W.heap.size) : w'.frozen? a = W.frozen? a := by
  unfold World.frozen?; rw [h.heap _ ha]
theorem Kept.cell {W w' : World} (h : Kept W w') (a : Addr) (x : Value) (ha : W.cell? a = some x) : w'.cell? a = some x := by
  have := cell?_lt ha
  unfold World.cell? at ha ⊢
  rw [h.heap _ this]
  exact ha

theorem leaf_plain : ∀ (args : List V) (cargs : List Value), (∀ v ∈ args, v.tips = false) → zipF leaf3 args cargs = []
  | [], _, _ => by simp [zipF]
  | _ :: _, [], _ => by simp [zipF]
  | v :: vs, x :: xs, h => by
    simp only [zipF, leaf3_nil_of_tips x (h v (by simp)), leaf_plain vs xs (fun u hu => h u (by simp [hu])), List.append_nil]

/-- A law's call. -/
theorem law_of {c : Cfg} (hc : CfgOk c) (hhand : ∀ f h, c.hand f = some h → FunOk c f h) {k : Nat} {f : FuncId} {args : List V} {b : Bool} (h : callN c k f args [] = some (.bool b, [])) {fn : Func} {rsh : List RSh}
    (hfn : c.fn f = some fn) (hrsh : rshOf c fn (c.rtip f) = some rsh) {W : World} {cargs : List Value} (hlen : cargs.length = args.length)
    (hrep : ∀ (i : Nat) v x, args[i]? = some v → cargs[i]? = some x → Rep c W (sizes W) [] v x) (htip : ∀ v ∈ args, v.tips = false) :
    Calls c.P f cargs.toArray W fun e w' => e = .returned (.bool b) ∧ Kept W w' := by
  have hz := leaf_plain args cargs htip
  have hinv : Inv c W (sizes W) [] args cargs [] := ⟨by omega, hrep, rfl, fun i o b ho => by simp at ho, fun b => by rw [hz]; simp [leafO, cnt], fun l hl => by rw [hz] at hl; simp [leafO] at hl, fun b hb => (by cases hb), sizes_none W⟩
  obtain ⟨_, _, hcalls⟩ := (callN_ok hc hhand k f).2 fn rsh hfn hrsh args [] (.bool b) [] h W (sizes W) [] cargs hlen hinv
  refine hcalls.mono ?_
  rintro e w' ⟨u, G', rfl, hs⟩
  have hu := bool_of (hs.inv.rep 0 _ _ rfl rfl) rfl
  subst hu
  refine ⟨rfl, hs.stp.size, fun b hb => (hs.stp.keep b hb ?_).1, hs.stp.os, hs.stp.out⟩
  show ¬ (0 < _)
  rw [hz]; simp [leafO, cnt]

section
variable {H : Type} {enc : TypeId × Value → H} {P : Program}
theorem post_of_kept {f : Func} {s : ChangeSpec} {apart fresh handsOn again : Bool} {W W' : World} {args : Array Value} {v : Value} {ds gs : List (DataW H)} {before pa pv : List MemPlace}
    (hW : DataW.Whole enc P f.params.toList s.vars apart W args.toList ds gs before)
    (hres : ∀ (b : Nat) (sp : Nat → Bool) (hd : Bool), DataW.TrodAll enc P W' b sp hd f.resultTypes.toList (v.resultList f.resultTypes.size) (s.fn H (ds ++ gs)).results [])
    (hargs : ∀ sp : Nat → Bool, (∀ p ∈ before, sp p.block = true) → DataW.TrodAll enc P W' 0 sp true f.params.toList args.toList (s.fn H (ds ++ gs)).args pa)
    (hvars : ∀ sp : Nat → Bool, (∀ p ∈ before, sp p.block = true) → DataW.TrodVars enc P W' sp s.vars (s.fn H (ds ++ gs)).vars pv)
    (hps : before = pa ++ pv) (hk : Kept W W')
    (hok : ∀ (j : Nat) (t : TypeId) (r : Value), f.resultTypes[j]? = some t → (v.resultList f.resultTypes.size)[j]? = some r → Value.okWide P W' .any 0 t r) :
    s.post enc P f apart fresh handsOn again W args v W' := by
  have hlt := hW.lt
  have hold : ∀ p ∈ before, (fun b => decide (b < W.heap.size)) p.block = true := fun p hp => by simpa using hlt p hp
  refine ⟨ds, gs, before, [], pa, pv, hW, hres _ _ _, hargs _ hold, hvars _ hold, World.keptBut_mono (fun p hp => ⟨hp, ?_⟩) (hk.but (· ∈ before)), fun _ => ?_⟩
  · rw [hps, List.mem_append] at hp
    exact Or.inr hp
  · obtain ⟨_, _, _, _, _, hz, hn⟩ := hW
    refine ⟨hok, _, _, ([] ++ pa) ++ pv, ⟨[] ++ pa, pv, trodAll_append (hargs _ (fun _ _ => rfl)) (hres _ _ _), hvars _ (fun _ _ => rfl), rfl, ?_, ?_⟩, ?_⟩
    · intro b off hp
      have hp' : MemPlace.cell b off ∈ before := by rw [hps]; simpa using hp
      rw [hk.frozen _ (hlt _ hp')]
      exact hz b off hp'
    · intro ha
      have := hn ha
      rw [hps] at this
      simpa using this
    · intro p hp _
      rw [hps]
      simpa using hp
end
end Go.Ev
