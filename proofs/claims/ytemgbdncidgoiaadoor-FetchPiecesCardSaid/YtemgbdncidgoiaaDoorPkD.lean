/- Lemmas for the claim, merged: the plain reading of the program's functions, its soundness, and what they compute. -/
import Derived.Test.YtemgbdncidgoiaaDoorPkC
import Derived.Test.YtemgbdncidgoiaaDoorProg
import Derived.Maps.RangeWalk
import Derived.Lib.Bytealg
import Derived.Lib.IndexLaws
import Derived.Deep.LoopGhost
import Derived.Deep.Light
import Derived.Shelf.RegionOpenPlain
import Derived.Lib.Strings
import Derived.Lib.Slices
import Derived.Lib.Walk
import Derived.Lib.Builder
import Derived.Lib.AppendStr
import Derived.Lib.UnsafeStr
import Derived.WalkKit
import Derived.Laws.Externs
import Derived.Laws.BitsLemmas
import Derived.Lib.SliceRun
import Derived.Test.YtemgbdncidgoiaaDoorCards
import Derived.Test.YtemgbdncidgoiaaDoorTie
import Derived.ProofKit
import Derived.OpenShut
import Derived.Deep.DeepHandedRow
import Derived.IntWalk
import Derived.Laws.BitsAllLaws
import Derived.KernelRfl
set_option linter.all false
set_option linter.unusedVariables false
set_option linter.unusedSimpArgs false
section
namespace Go.Proofs.YtemgbdncidgoiaaDoor
open Go.RowKit Go.Shelf Go.Rg
attribute [local go_sem] Oper.semAt_some
def encLn (x : Nat × Nat × Nat) : Value := .agg #[.int .i64 x.1, .int .i64 x.2.1, .int .i64 x.2.2]
def cellLn (x : Nat × Nat × Nat) : List Value := [.int .i64 x.1, .int .i64 x.2.1, .int .i64 x.2.2]
noncomputable def apAssign : Code := (Code.region 2 #[{ dst := some 5, op := Op.alloc 104, type := 0, pos := "iter.go:51", after := #[], guard := none }, { dst := none, op := Op.store 104 (Operand.tmp 5) (Operand.tmp 7), type := 0, pos := "iter.go:51", after := #[{ on := 0, ground := Ground.data }, { on := 0, ground := Ground.phase }], guard := none }] false)
noncomputable def apBody : Code := (Code.block 1 (Code.region 3 #[{ dst := some 8, op := Op.load 101 (Operand.tmp 2), type := 101, pos := "iter.go:52", after := #[], guard := none }, { dst := some 9, op := Op.load 104 (Operand.tmp 5), type := 104, pos := "iter.go:52", after := #[], guard := none }, { dst := some 10, op := Op.buildSlice 101 1 #[(0, Operand.tmp 9)], type := 101, pos := "iter.go:52", after := #[{ on := 1, ground := Ground.data }], guard := none }, { dst := some 11, op := Op.call { callee := Callee.builtin Builtin.append, args := #[Operand.tmp 8, Operand.tmp 10], argTypes := #[101, 101] }, type := 101, pos := "iter.go:52", after := #[{ on := 0, ground := Ground.data }, { on := 2, ground := Ground.data }], guard := none }, { dst := none, op := Op.store 101 (Operand.tmp 2) (Operand.tmp 11), type := 0, pos := "iter.go:52", after := #[{ on := 3, ground := Ground.data }, { on := 3, ground := Ground.chain }, { on := 0, ground := Ground.phase }, { on := 1, ground := Ground.phase }, { on := 2, ground := Ground.phase }, { on := 3, ground := Ground.phase }], guard := none }] false))
noncomputable def apRec (fn : FuncId) (sv : Value) (Bs D : Nat) (st : LoopState) (pend : Option Code) : Loop :=
  { state := st, pending := pend, fn, tmps := #[.slice none 0 0, sv, .pointer (some ⟨Bs, 0, none⟩), undef, .slice none 0 0, undef, sv, undef, undef, undef, undef, undef, undef], params := #[7], assign := apAssign, body := apBody, defers := D }
theorem infoLn : (Tryd.prog.info? 104).map (fun i => (i.zero, i.size, i.bytes)) = some (some (.agg #[.int .i64 0, .int .i64 0, .int .i64 0]), 3, 24) := by kernel_rfl
set_option maxRecDepth 100000 in
set_option maxHeartbeats 2000000 in
theorem apYield (base : World) (fn : FuncId) (sv : Value) (Bs l D : Nat) (hBl : Bs ≠ l) (hDl : D ≠ l) (hDB : D ≠ Bs) (h0B : base.heap.size ≤ Bs) (h0l : base.heap.size ≤ l)
    (N : Nat) (hN : N ≤ maxLen) (hNb : N * 24 ≤ 140737488355328) (xs : List Value) (n : Nat) (x : Nat × Nat × Nat) (W : World) (h : Coll base 101 104 3 (apRec fn sv Bs D .ready none) Bs l D xs n W) (hlen : n < N) :
    YieldAt Fence.wide 0 Tryd.prog l #[encLn x] W fun e W' => e = .returned (.bool true) ∧ Coll base 101 104 3 (apRec fn sv Bs D .ready none) Bs l D (xs ++ cellLn x) (n + 1) W' ∧ Kept (CollT 101 Bs l D) W W' := by
  obtain ⟨i0, hi, hz0, hz1, hz2⟩ := info_parts infoLn
  obtain ⟨v, hv, hrow, _⟩ := h.box
  refine ⟨fn, #[.slice none 0 0, sv, .pointer (some ⟨Bs, 0, none⟩), undef, .slice none 0 0, undef, sv, encLn x, undef, undef, undef, undef, undef], apAssign, apBody, by simpa [apRec] using run_yield (P := Tryd.prog) (args := #[encLn x]) h.L rfl, roundIn_of_wpIn trivial ?_⟩
  have hl : l < W.heap.size := (Array.getElem?_eq_some_iff.1 h.L).1
  unfold apAssign encLn
  gi_wp2_with (rw [Oper.semAt_eq _ _ _ (fun c h => by cases h)]; go_simp; try go_bits)
  obtain ⟨Wa, hWa⟩ : ∃ Wa, W.alloc (.cells #[.int .i64 x.1, .int .i64 x.2.1, .int .i64 x.2.2] 104) = Wa := ⟨_, rfl⟩
  have hsa : Wa.heap.size = W.heap.size + 1 := by rw [← hWa]; simp
  have hga : W.grownBy Wa none := by rw [← hWa]; exact World.grownBy_alloc _ _ _
  have hxa : Wa.heap[W.heap.size]? = some (.cells #[.int .i64 x.1, .int .i64 x.2.1, .int .i64 x.2.2] 104 (0, 0)) := by rw [← hWa]; exact World.alloc_heap_new W _
  rw [hWa]
  clear hWa
  have hLa := (hga.block l hl (by simp)).trans h.L
  have hla : l < Wa.heap.size := by omega
  have hbr := run_beginRound (P := Tryd.prog) hLa rfl
  obtain ⟨W2, hW2⟩ : ∃ W2, Wa.putObj l (.loop { apRec fn sv Bs D .ready none with state := .busy }) = W2 := ⟨_, rfl⟩
  rw [hW2] at hbr
  have hga2 : Wa.grownBy W2 (some l) := by rw [← hW2]; exact grownBy_putObj _ _ _
  have hs2 : W2.heap.size = W.heap.size + 1 := by rw [← hW2]; simp [World.putObj, hsa]
  have hva : Boxed Wa Bs 101 v := hv.kept hga (by simp)
  have hv2 : Boxed W2 Bs 101 v := hva.kept hga2 (by simpa using hBl)
  have hxlt : W.heap.size < Wa.heap.size := by omega
  have hxl : W.heap.size ≠ l := by omega
  have hx2 : W2.heap[W.heap.size]? = some (.cells #[.int .i64 x.1, .int .i64 x.2.1, .int .i64 x.2.2] 104 (0, 0)) := (hga2.block _ hxlt (by simpa using hxl)).trans hxa
  have hKl : D < W.heap.size := (Array.getElem?_eq_some_iff.1 h.K).1
  have hK2 : W2.heap[D]? = some (.deferred (some [])) := (hga2.block D (by omega) (by simpa using hDl)).trans ((hga.block D hKl (by simp)).trans h.K)
  have hL2 : W2.heap[l]? = some (.loop { apRec fn sv Bs D .ready none with state := .busy }) := by rw [← hW2]; exact World.putObj_heap_same hla
  have hrowa : Wa.ownsRow base.heap.size 104 3 v n xs := hrow.kept hga (by cases v.ownBlock <;> simp)
  have hrow2 : W2.ownsRow base.heap.size 104 3 v n xs := hrowa.kept hga2 (ownsRow_ne hrowa hLa (fun cur e => by cases e))
  have hb2 : Below base.heap.size base W2 := (h.below.grown hga h.below.size (fun k e => by cases e)).grown hga2 (by have := h.below.size; omega) (fun k e => by cases e; exact h0l)
  have hc2 := hv2.cell
  have hf2 := hv2.frozen
  have hx20 : W2.cell? ⟨W.heap.size, 0, none⟩ = some (.int .i64 x.1) := by simp [World.cell?, hx2]
  have hx21 : W2.cell? ⟨W.heap.size, 1, none⟩ = some (.int .i64 x.2.1) := by simp [World.cell?, hx2]
  have hx22 : W2.cell? ⟨W.heap.size, 2, none⟩ = some (.int .i64 x.2.2) := by simp [World.cell?, hx2]
  clear hW2
  have HS2 : Hid (W2.heap.size = W.heap.size + 1) := hs2
  clear hs2
  refine ⟨W2, hbr, ?_⟩
  unfold apBody
  gi_wp2_with (first
    | (gi_at_builtin; refine wpListIn_append_where _ rfl _ _ 101 rfl base.heap.size 104 i0 (.agg #[.int .i64 0, .int .i64 0, .int .i64 0]) 3 24 Tryd.underlying101 hi hz0 hz1 hz2 rfl (by decide) _ _ _ rfl (hrow2.alloc _) ⟨W2.heap.size, 0, none⟩ 1 1 (cellLn x) rfl rfl (by decide) ?c1 ?c2 ?c3 ?c4 ?c5 ?_
       case c1 => intro j u hu; rw [Addr.add_lit]; have := World.alloc_heap_new W2 (.cells #[.int .i64 x.1, .int .i64 x.2.1, .int .i64 x.2.2] 104); simp only [World.cell?, Nat.zero_add]; rw [this]; exact (by simpa [cellLn] using hu)
       case c2 => intro u hu; simp [cellLn] at hu; rcases hu with rfl | rfl | rfl <;> rfl
       case c3 => omega
       case c4 => omega
       case c5 => have := hb2.size; simp; omega
       intro v' w3 hown' hg3 hwh
       have hv2a := hv2.alloc (.cells #[.int .i64 x.1, .int .i64 x.2.1, .int .i64 x.2.2] 104)
       have hv3 : Boxed w3 Bs 101 v := hv2a.kept hg3 (hv2.not_row (by decide) hrow2)
       have hc3 := hv3.cell
       have hf3 := hv3.frozen
       obtain ⟨g', cap', rfl⟩ := ownsRow_succ hown'
       simp only [Act.put, List.setIfInBounds_toArray, List.set_cons_succ, List.set_cons_zero])
    | (rw [Oper.semAt_eq _ _ _ (fun c h => by cases h)]; go_simp; try go_bits))
  have hs2 := HS2.out
  have hg3' : (W2.alloc (.cells #[.int .i64 x.1, .int .i64 x.2.1, .int .i64 x.2.2] 104)).grownBy w3 v.ownBlock := hg3
  have ne_of : ∀ {j : Nat} {o : Obj}, W2.heap[j]? = some o → (∀ cur, o ≠ .cells cur 104 (0, 0)) → some j ≠ v.ownBlock := fun hj hno => by
    rcases ownsRow_ne hrow2 hj hno with e | e
    · rw [e]; simp
    · exact fun e' => e e'.symm
  have hl2 : l < W2.heap.size := by omega
  have hD2 : D < W2.heap.size := by omega
  have hL3 : w3.heap[l]? = some (.loop { apRec fn sv Bs D .ready none with state := .busy }) := (hg3'.block l (by simp; omega) (ne_of hL2 (fun cur e => by cases e))).trans ((Below.heap_alloc _ _ l hl2).trans hL2)
  have hK3 : w3.heap[D]? = some (.deferred (some [])) := (hg3'.block D (by simp; omega) (ne_of hK2 (fun cur e => by cases e))).trans ((Below.heap_alloc _ _ D hD2).trans hK2)
  have hs3 : W.heap.size + 2 ≤ w3.heap.size := by have := hg3'.size; simp at this; omega
  obtain ⟨w4, hw4⟩ : ∃ w4, w3.setCell ⟨Bs, 0, none⟩ (.slice (some ⟨g', 0, none⟩) (n + 1) cap') = w4 := ⟨_, rfl⟩
  rw [hw4]
  have hg4 : w3.grownBy w4 (some Bs) := by rw [← hw4]; exact grownBy_setCell _ _ _
  have hv4 : Boxed w4 Bs 101 (.slice (some ⟨g', 0, none⟩) (n + 1) cap') := by rw [← hw4]; exact hv3.set _
  have hL4 : w4.heap[l]? = some (.loop { apRec fn sv Bs D .ready none with state := .busy }) := (hg4.block l (Array.getElem?_eq_some_iff.1 hL3).1 (fun e => hBl (by cases e; rfl))).trans hL3
  have hK4 : w4.heap[D]? = some (.deferred (some [])) := (hg4.block D (Array.getElem?_eq_some_iff.1 hK3).1 (fun e => hDB (by cases e; rfl))).trans hK3
  have hrow4 := hown'.kept hg4 (.inr (hv3.not_row (by decide) hown').symm)
  have hs4 : w3.heap.size = w4.heap.size := by rw [← hw4]; simp [World.setCell]
  have hl4 : l < w4.heap.size := by omega
  have hb3 : Below base.heap.size base w3 := (hb2.alloc hb2.size _).grown hg3' (by have := hb2.size; simp; omega) (fun k e => (hrow2.lt k e).1)
  have hb4 : Below base.heap.size base w4 := hb3.grown hg4 hb3.size (fun k e => by cases e; exact h0B)
  clear hw4
  have hg5 : w4.grownBy (w4.putObj l (.loop { { apRec fn sv Bs D .ready none with state := .busy } with state := if (none : Option Code).isNone then .ready else .done, pending := none })) (some l) := grownBy_putObj _ _ _
  have hv5 := hv4.kept hg5 (by simpa using hBl)
  have hrow5 := hrow4.kept hg5 (ownsRow_ne hrow4 hL4 (fun cur e => by cases e))
  refine ⟨_, _, run_endRound none hL4, rfl, ⟨⟨_, hv5, hrow5, by simp⟩, World.putObj_heap_same hl4, (World.putObj_heap_other hDl).trans hK4, hb4.grown hg5 hb4.size (fun k e => by cases e; exact h0l)⟩, ?_, ?_⟩
  · exact Nat.le_trans (by omega) hg5.size
  · intro j hj hT
    have hjB : j ≠ Bs := fun e => hT ⟨hj, .inl e⟩
    have hjl : j ≠ l := fun e => hT ⟨hj, .inr (.inl e)⟩
    have hjD : j ≠ D := fun e => hT ⟨hj, .inr (.inr (.inl e))⟩
    have hjv : some j ≠ v.ownBlock := fun e => hT ⟨hj, .inr (.inr (.inr ⟨v, hv, e.symm⟩))⟩
    have e1 := hga.block j hj (by simp)
    have e2 := hga2.block j (by omega) (by simpa using hjl)
    have e3 := Below.heap_alloc W2 (.cells #[.int .i64 x.1, .int .i64 x.2.1, .int .i64 x.2.2] 104) j (by omega)
    have e4 := hg3'.block j (by simp; omega) hjv
    have e5 := hg4.block j (by omega) (by simpa using hjB)
    have e6 := hg5.block j (by omega) (by simpa using hjl)
    refine ⟨e6.trans (e5.trans (e4.trans (e3.trans (e2.trans e1)))), ?_⟩
    rintro ⟨_, h1 | h1 | h1 | ⟨v', hv', h1⟩⟩
    · exact hjB h1
    · exact hjl h1
    · exact hjD h1
    · have h3 := (show _ = _ from hv').symm.trans hv5
      simp at h3
      subst h3
      have hwh' : (some g' = v.ownBlock ∨ some g' = some (W2.alloc (.cells #[.int .i64 x.1, .int .i64 x.2.1, .int .i64 x.2.2] 104)).heap.size) := hwh
      have h1' : g' = j := by simpa [Value.ownBlock] using h1
      subst h1'
      rcases hwh' with e | e
      · exact hjv e
      · simp at e; omega
end Go.Proofs.YtemgbdncidgoiaaDoor
end
section
namespace Go.Proofs.YtemgbdncidgoiaaDoor
open Go.RowKit Go.Shelf Go.Rg
attribute [local go_sem] Oper.semAt_some
def cellsLn (xs : List (Nat × Nat × Nat)) : List Value := xs.flatMap cellLn
set_option maxRecDepth 100000 in
set_option maxHeartbeats 2000000 in
theorem appendSeq_in (g : Nat) (lb : Array Value) (eg : ∀ args w, (callFunc g args).run Tryd.prog w = .ok (.enter g args) w)
    (xs : List (Nat × Nat × Nat)) (hN : xs.length ≤ maxLen) (hNb : xs.length * 24 ≤ 140737488355328) (w : World) (hseq : Tells Tryd.prog g lb encLn xs w) :
    CallsIn Fence.wide 2 Tryd.prog 95 #[.slice none 0 0, .func (.func g) #[] lb] w fun e w' => ∃ v : Value, e = .returned v ∧ w'.ownsRow w.heap.size 104 3 v xs.length (cellsLn xs) ∧ Below w.heap.size w w' := by
  refine callsIn_of_wp_marks Tryd.func95 rfl trivial ?_ rfl
  simp only [Tryd.ntmps95, List.size_toArray, List.length_cons, List.length_nil, Nat.reduceAdd, Nat.reduceSub, Array.replicate_succ, Array.replicate_zero, List.push_toArray, List.append_toArray, List.nil_append, List.cons_append]
  gi_wp2
  refine wpIn_rangeFunc ?_
  intro fn hfn
  obtain ⟨W0, hW0⟩ : ∃ W0, w.alloc (.cells #[.slice none 0 0] 101) = W0 := ⟨_, rfl⟩
  have hs0 : W0.heap.size = w.heap.size + 1 := by rw [← hW0]; simp
  have hv0 : W0.heap[w.heap.size]? = some (.cells #[.slice none 0 0] 101 (0, 0)) := by rw [← hW0]; exact World.alloc_heap_new w _
  have hb0 : Below w.heap.size w W0 := by rw [← hW0]; exact (Below.refl _ w).alloc (Nat.le_refl _) _
  rw [hW0]
  obtain ⟨W1, hW1⟩ : ∃ W1, (W0.alloc (.deferred (some []))).alloc (.loop (apRec fn (.func (.func g) #[] lb) w.heap.size W0.heap.size .ready none)) = W1 := ⟨_, rfl⟩
  have hold : ∀ k, k < W0.heap.size → W1.heap[k]? = W0.heap[k]? := fun k hk => by
    rw [← hW1]; exact (Below.heap_alloc _ _ k (by simp; omega)).trans (Below.heap_alloc _ _ k hk)
  have hb1 : Below w.heap.size w W1 := by rw [← hW1]; exact (hb0.alloc hb0.size _).alloc (by have := hb0.size; simp; omega) _
  have hs1 : W1.heap.size = W0.heap.size + 2 := by rw [← hW1]; simp
  have hM : Coll w 101 104 3 (apRec fn (.func (.func g) #[] lb) w.heap.size W0.heap.size .ready none) w.heap.size (W0.heap.size + 1) W0.heap.size (cellsLn (xs.take 0)) 0 W1 :=
    ⟨⟨_, (hold w.heap.size (by omega)).trans hv0, ⟨rfl, .inl ⟨rfl, rfl⟩⟩, by simp⟩,
     by rw [← hW1]; have := World.alloc_heap_new (W0.alloc (.deferred (some []))) (.loop (apRec fn (.func (.func g) #[] lb) w.heap.size W0.heap.size .ready none)); rwa [World.size_alloc] at this,
     by rw [← hW1]; exact (Below.heap_alloc _ _ _ (by simp)).trans (World.alloc_heap_new W0 _), hb1⟩
  refine ⟨W0.heap.size + 1, [{ target := .collected W0.heap.size, args := #[] }], W1, { target := .fn (.func g) lb, args := #[.func (.yield (W0.heap.size + 1)) #[] #[]] }, W1, g,
    #[.func (.yield (W0.heap.size + 1)) #[] #[]] ++ lb, W1, ?_, ?_, ?_, ?_, fun h => by simp [Fence.wide] at h, ?_⟩
  · rw [← hW1]; exact run_enterLoop_outer _ _ _ _ _
  · simp [resolve, go_sem]
  · intro f' hf'; trivial
  · simp [invoke, go_sem, eg]
  · refine (hseq (W0.heap.size + 1) (fun i W => Coll w 101 104 3 (apRec fn (.func (.func g) #[] lb) w.heap.size W0.heap.size .ready none) w.heap.size (W0.heap.size + 1) W0.heap.size (cellsLn (xs.take i)) i W) (fun _ => False) (CollT 101 w.heap.size (W0.heap.size + 1) W0.heap.size) W1
      (coll_abides _ _ _ _ _ _ _ _ _) ?_ hM).mono ?_
    · intro i x W hx hJ
      have hi := (List.getElem?_eq_some_iff.1 hx).1
      have := apYield w fn (.func (.func g) #[] lb) w.heap.size (W0.heap.size + 1) W0.heap.size (by omega) (by omega) (by omega) (Nat.le_refl _) (by omega) xs.length hN hNb (cellsLn (xs.take i)) i x W hJ hi
      have e : cellsLn (xs.take (i + 1)) = cellsLn (xs.take i) ++ cellLn x := by
        rw [List.take_add_one, hx]
        simp [cellsLn]
      obtain ⟨fn', tmps', as', bd', hy, hR⟩ := this
      refine ⟨fn', tmps', as', bd', hy, hR.mono ?_⟩
      rintro e' W' ⟨rfl, hc, hk⟩
      exact .inl ⟨rfl, by dsimp only; rw [e]; exact hc, hk⟩
    rintro e W2 ⟨⟨v0, rfl⟩, h2⟩
    replace h2 := h2.resolve_right id
    rw [List.take_length] at h2
    obtain ⟨v, hv, hrow, hnil⟩ := h2.box
    have hend := run_endLoop (P := Tryd.prog) h2.L (by simp [apRec])
    obtain ⟨W3, hW3⟩ : ∃ W3, W2.putObj (W0.heap.size + 1) (.loop { apRec fn (.func (.func g) #[] lb) w.heap.size W0.heap.size .ready none with state := .exhausted }) = W3 := ⟨_, rfl⟩
    rw [hW3] at hend
    have hg3 : W2.grownBy W3 (some (W0.heap.size + 1)) := by rw [← hW3]; exact grownBy_putObj _ _ _
    have hv3 : Boxed W3 w.heap.size 101 v := hv.kept hg3 (by simp; omega)
    have hK3 : W3.heap[W0.heap.size]? = some (.deferred (some [])) := by rw [← hW3]; exact (World.putObj_heap_other (by omega)).trans h2.K
    have hrow3 := hrow.kept hg3 (ownsRow_ne hrow h2.L (fun cur e => by cases e))
    have hb3 : Below w.heap.size w W3 := h2.below.grown hg3 h2.below.size (fun k e => by cases e; omega)
    have hc3 := hv3.cell
    have hf3 := hv3.frozen
    clear hW3
    refine ⟨none, W3, hend, ?_⟩
    gi_wp2
    rw [← hs0]
    refine ⟨by simp, .inl ⟨_, _, rfl, run_takeDeferred hK3, ?_⟩⟩
    exact ⟨_, results_tmp rfl _ _ _, v, rfl, hrow3.kept (grownBy_putObj _ _ _) (ownsRow_ne hrow3 hK3 (fun cur e => by cases e)), hb3.grown (grownBy_putObj _ _ _) hb3.size (fun k e => by cases e; omega)⟩
set_option maxHeartbeats 1000000 in
theorem collect_in (g : Nat) (lb : Array Value) (eg : ∀ args w, (callFunc g args).run Tryd.prog w = .ok (.enter g args) w)
    (xs : List (Nat × Nat × Nat)) (hN : xs.length ≤ maxLen) (hNb : xs.length * 24 ≤ 140737488355328) (w : World) (hseq : Tells Tryd.prog g lb encLn xs w) :
    Calls Tryd.prog 74 #[.func (.func g) #[] lb] w fun e w' => ∃ v : Value, e = .returned v ∧ w'.ownsRow w.heap.size 104 3 v xs.length (cellsLn xs) ∧ Below w.heap.size w w' := by
  go_enter Tryd.func74, Tryd.ntmps74
  go_wp2_with (first | (go_at_call 95; refine (callsIn_wide.1 (appendSeq_in g lb eg xs hN hNb _ hseq)).mono ?_; rintro e w' ⟨v, rfl, hrow, hb⟩))
  go_ret
  exact ⟨v, rfl, hrow, hb⟩
end Go.Proofs.YtemgbdncidgoiaaDoor
end
section
namespace Go.Proofs.YtemgbdncidgoiaaDoor
open Go.RowKit Go.Shelf Go.Rg
theorem indexByte_at : ∀ {l : List UInt8} {c : UInt8} {o : Nat}, l[o]? = some c → (∀ k, k < o → l[k]? ≠ some c) → Lib.indexByte l c = o
  | [], _, o, h, _ => by simp at h
  | b :: l, c, 0, h, _ => by
    simp at h
    subst h
    simp [Lib.indexByte]
  | b :: l, c, o + 1, h, hn => by
    have h0 : b ≠ c := fun e => hn 0 (by omega) (by simp [e])
    have ih := indexByte_at (l := l) (o := o) (by simpa using h) fun k hk => by have := hn (k + 1) (by omega); simpa using this
    unfold Lib.indexByte
    have hb : (b == c) = false := by simpa using h0
    rw [hb, ih]
    have : ((o : Int) == -1) = false := by simp
    simp [this]
theorem indexByte_not : ∀ {l : List UInt8} {c : UInt8}, (∀ k, k < l.length → l[k]? ≠ some c) → Lib.indexByte l c = -1
  | [], _, _ => rfl
  | b :: l, c, hn => by
    have h0 : b ≠ c := fun e => hn 0 (by simp) (by simp [e])
    have ih := indexByte_not (l := l) (c := c) fun k hk => by have := hn (k + 1) (by simpa using hk); simpa using this
    unfold Lib.indexByte
    have hb : (b == c) = false := by simpa using h0
    simp [hb, ih]
set_option maxHeartbeats 1000000 in
theorem index97_c (w : World) (b off cap : Nat) (bs : List UInt8) (v : UInt8) (hc : ∀ j x, bs[j]? = some x → w.cell? ⟨b, off + j, none⟩ = some (.int .u8 x.toNat)) (hlen : bs.length < 9223372036854775807) :
    Calls Tryd.prog 97 #[.slice (some ⟨b, off, none⟩) bs.length cap, .int .u8 v.toNat] w fun e w' => e = .returned (.int .i64 (Lib.indexByte bs v)) ∧ w' = w := by
  have HC : Aside (∀ j x, bs[j]? = some x → w.cell? ⟨b, off + j, none⟩ = some (.int .u8 x.toNat)) := hc
  clear hc
  go_enter Tryd.func97, Tryd.ntmps97
  go_wp2
  go_loopg [8] bs.length (fun g s8 wr => ∃ k : Nat, s8 = .int .i64 k ∧ k ≤ bs.length ∧ g = bs.length - k ∧ wr = w ∧ Aside (∀ j, j < k → bs[j]? ≠ some v))
  case atStart => exact ⟨0, rfl, Nat.zero_le _, rfl, rfl, fun j hj => by omega⟩
  case round =>
    obtain ⟨k, rfl, hk, rfl, rfl, hn⟩ := hrel
    by_cases hlt : k < bs.length
    · have hltz : (k : Int) < (bs.length : Int) := by omega
      have hcx := HC.out k bs[k] (by simp [hlt])
      by_cases hv : bs[k] = v
      · have hq : ((v.toNat : Int) == (bs[k].toNat : Int)) = true := by rw [hv]; simp
        go_wp2
        go_ret
        have e := indexByte_at (o := k) (c := v) (l := bs) (by simp [hlt, hv]) hn.out
        exact ⟨by rw [e]; rfl, rfl⟩
      · have hq : ((v.toNat : Int) == (bs[k].toNat : Int)) = false := by
          have : v.toNat ≠ bs[k].toNat := fun e => hv (UInt8.toNat_inj.1 e.symm)
          exact beq_eq_false_iff_ne.2 (by omega)
        go_wp2
        go_roundg (bs.length - (k + 1))
        case measure => go_light; omega
        case rel =>
          go_light
          refine ⟨k + 1, by push_cast; rfl, by omega, by omega, rfl, fun j hj => ?_⟩
          rcases Nat.lt_or_ge j k with h | h
          · exact hn.out j h
          · obtain rfl : j = k := by omega
            simp [hlt, hv]
    · have hltz : ¬ ((k : Int) < (bs.length : Int)) := by omega
      go_wp2
      go_ret
      obtain rfl : k = bs.length := by omega
      have e := indexByte_not hn.out
      exact ⟨by rw [e]; rfl, rfl⟩
end Go.Proofs.YtemgbdncidgoiaaDoor
end
section
namespace Go.Proofs.YtemgbdncidgoiaaDoor
open Go.RowKit Go.Shelf Go.Rg
attribute [local go_sem] Oper.semAt_some
def linesG : Nat → Nat → List UInt8 → List (Nat × Nat × Nat)
  | 0, _, _ => []
  | n + 1, a, s => if s = [] then [] else if Lib.indexByte s 10 < 0 then [(a, a + s.length, a + s.length)] else
    (a, a + (if 0 < (Lib.indexByte s 10).toNat ∧ s[(Lib.indexByte s 10).toNat - 1]? = some 13 then (Lib.indexByte s 10).toNat - 1 else (Lib.indexByte s 10).toNat), a + (Lib.indexByte s 10).toNat + 1) ::
      linesG n (a + (Lib.indexByte s 10).toNat + 1) (s.drop ((Lib.indexByte s 10).toNat + 1))
def linesF (a : Nat) (s : List UInt8) : List (Nat × Nat × Nat) := linesG s.length a s
theorem linesG_more : ∀ (n m a : Nat) (s : List UInt8), s.length ≤ n → s.length ≤ m → linesG n a s = linesG m a s
  | 0, m, a, s, h, _ => by
    have : s = [] := List.eq_nil_of_length_eq_zero (by omega)
    subst this
    cases m <;> simp [linesG]
  | n + 1, 0, a, s, _, h => by
    have : s = [] := List.eq_nil_of_length_eq_zero (by omega)
    subst this
    simp [linesG]
  | n + 1, m + 1, a, s, h, h' => by
    simp only [linesG]
    by_cases hs : s = []
    · simp [hs]
    · rw [if_neg hs, if_neg hs]
      have hp : 0 < s.length := List.length_pos_iff.2 hs
      rw [linesG_more n m (a + (Lib.indexByte s 10).toNat + 1) (s.drop ((Lib.indexByte s 10).toNat + 1)) (by rw [List.length_drop]; omega) (by rw [List.length_drop]; omega)]
theorem linesF_nil (a : Nat) : linesF a [] = [] := rfl
theorem linesF_cons (a : Nat) (s : List UInt8) (hs : s ≠ []) : linesF a s = if Lib.indexByte s 10 < 0 then [(a, a + s.length, a + s.length)] else
    (a, a + (if 0 < (Lib.indexByte s 10).toNat ∧ s[(Lib.indexByte s 10).toNat - 1]? = some 13 then (Lib.indexByte s 10).toNat - 1 else (Lib.indexByte s 10).toNat), a + (Lib.indexByte s 10).toNat + 1) ::
      linesF (a + (Lib.indexByte s 10).toNat + 1) (s.drop ((Lib.indexByte s 10).toNat + 1)) := by
  have hp : 0 < s.length := List.length_pos_iff.2 hs
  obtain ⟨n, hn⟩ : ∃ n, s.length = n + 1 := ⟨s.length - 1, by omega⟩
  unfold linesF
  rw [hn]
  conv => lhs; unfold linesG
  rw [if_neg hs, linesG_more n _ _ (s.drop ((Lib.indexByte s 10).toNat + 1)) (by rw [List.length_drop]; omega) (Nat.le_refl _), hn]
set_option maxRecDepth 100000 in
set_option maxHeartbeats 4000000 in
theorem all1_tells (base : World) (S B b off cap fr to : Nat) (bs : List UInt8) (hft : fr ≤ to) (htl : to ≤ bs.length) (hcap : bs.length ≤ cap) (hmax : bs.length ≤ 9223372036854775000)
    (hs0 : base.cell? ⟨S, 0, none⟩ = some (.int .i64 fr)) (hs1 : base.cell? ⟨S, 1, none⟩ = some (.int .i64 to)) (hb0 : base.cell? ⟨B, 0, none⟩ = some (.slice (some ⟨b, off, none⟩) bs.length cap))
    (hc : ∀ j x, bs[j]? = some x → base.cell? ⟨b, off + j, none⟩ = some (.int .u8 x.toNat)) :
    Tells Tryd.prog 96 #[.pointer (some ⟨S, 0, none⟩), .pointer (some ⟨B, 0, none⟩)] encLn (linesF fr ((bs.take to).drop fr)) base := by
  intro l J Jx T W hab hR h0
  have HC : Aside (∀ j x, bs[j]? = some x → base.cell? ⟨b, off + j, none⟩ = some (.int .u8 x.toNat)) := hc
  clear hc
  have hob := hab.old 0 W h0
  have hS : S < base.heap.size := World.block_lt_of_cell? base _ hs0
  have hB : B < base.heap.size := World.block_lt_of_cell? base _ hb0
  have hS0 : W.cell? ⟨S, 0, none⟩ = some (.int .i64 fr) := (hob.cell (p := ⟨S, 0, none⟩) hS).trans hs0
  refine callsIn_of_wp Tryd.func96 rfl trivial ?_ rfl
  simp only [Tryd.ntmps96, List.size_toArray, List.length_cons, List.length_nil, Nat.reduceAdd, Nat.reduceSub, Array.replicate_succ, Array.replicate_zero, List.push_toArray, List.append_toArray, List.nil_append, List.cons_append]
  gi_wp2
  gi_loopw [4] (fun i wr => ∃ (a n : Nat), i = .int .i64 a ∧ fr ≤ a ∧ a ≤ to ∧ J n wr ∧ linesF a ((bs.take to).drop a) = (linesF fr ((bs.take to).drop fr)).drop n ∧ n ≤ (linesF fr ((bs.take to).drop fr)).length)
    (fun i _ => to - (intOf i).toNat)
  case atStart => exact ⟨fr, 0, rfl, Nat.le_refl _, hft, h0, by simp, Nat.zero_le _⟩
  case round =>
    obtain ⟨a, n, rfl, hfa, hat, hJ, hX, hnl⟩ := hrel
    have HX : Aside (linesF a ((bs.take to).drop a) = (linesF fr ((bs.take to).drop fr)).drop n ∧ n ≤ (linesF fr ((bs.take to).drop fr)).length) := ⟨hX, hnl⟩
    clear hX hnl
    have hor := hab.old n wr hJ
    have hS1 : wr.cell? ⟨S, 1, none⟩ = some (.int .i64 to) := (hor.cell (p := ⟨S, 1, none⟩) hS).trans hs1
    have hB0 : wr.cell? ⟨B, 0, none⟩ = some (.slice (some ⟨b, off, none⟩) bs.length cap) := (hor.cell (p := ⟨B, 0, none⟩) hB).trans hb0
    by_cases hlt : a < to
    · have hltz : (a : Int) < (to : Int) := by omega
      have c0 : (0 : Int) ≤ (a : Int) := by omega
      have c1 : (a : Int) ≤ (to : Int) := by omega
      have c2 : (to : Int) ≤ (cap : Int) := by omega
      generalize hseg : (bs.take to).drop a = seg at HX
      have hsl : seg.length = to - a := by rw [← hseg]; simp; omega
      have hcs : ∀ (w' : World), (∀ k, k < base.heap.size → w'.heap[k]? = base.heap[k]?) → ∀ j x, seg[j]? = some x → w'.cell? ⟨b, off + a + j, none⟩ = some (.int .u8 x.toNat) := by
        intro w' hw j x hx
        have h1 : bs[a + j]? = some x := by
          rw [← hseg, List.getElem?_drop, List.getElem?_take] at hx
          split at hx
          · exact hx
          · cases hx
        have h2 := HC.out (a + j) x h1
        have hb := World.block_lt_of_cell? base _ h2
        have h3 := hw b hb
        simp only [World.cell?] at h2 ⊢
        rw [h3, Nat.add_assoc]
        exact h2
      have HSL : Aside (seg.length = to - a) := hsl
      have HCS : Aside (∀ (w' : World), (∀ k, k < base.heap.size → w'.heap[k]? = base.heap[k]?) → ∀ j x, seg[j]? = some x → w'.cell? ⟨b, off + a + j, none⟩ = some (.int .u8 x.toNat)) := hcs
      clear hcs hsl
      have hBl : B < wr.heap.size := Nat.lt_of_lt_of_le hB hor.size
      have hSl : S < wr.heap.size := Nat.lt_of_lt_of_le hS hor.size
      have hB1 : ∀ cs, (wr.alloc (.cells cs 104)).cell? ⟨B, 0, none⟩ = some (.slice (some ⟨b, off, none⟩) bs.length cap) := fun cs => (World.cell?_of_block (Below.heap_alloc _ _ B hBl)).trans hB0
      have hS2 : ∀ cs, (wr.alloc (.cells cs 104)).cell? ⟨S, 1, none⟩ = some (.int .i64 to) := fun cs => (World.cell?_of_block (Below.heap_alloc _ _ S hSl)).trans hS1
      have hwa : ∀ cs k, k < base.heap.size → (wr.alloc (.cells cs 104)).heap[k]? = base.heap[k]? := fun cs k hk => (Below.heap_alloc _ _ k (Nat.lt_of_lt_of_le hk hor.size)).trans (hor.block k hk)
      have hidx : ∀ cs, CallsIn Fence.wide 0 Tryd.prog 97 #[.slice (some ⟨b, off + a, none⟩) (to - a) (cap - a), .int .u8 10] (wr.alloc (.cells cs 104)) fun e w' => e = .returned (.int .i64 (Lib.indexByte seg 10)) ∧ w' = wr.alloc (.cells cs 104) := by
        intro cs
        have := index97_c (wr.alloc (.cells cs 104)) b (off + a) (cap - a) seg 10 (HCS.out _ (hwa cs)) (by rw [HSL.out]; omega)
        rw [HSL.out] at this
        exact callsIn_wide.2 this
      have hsne : seg ≠ [] := fun e => by have := HSL.out; rw [e] at this; simp at this; omega
      have hxs := linesF_cons a seg hsne
      have fin : ∀ (e nx : Nat) (E N : Int) (rest : List (Nat × Nat × Nat)), E = e → N = nx → linesF a seg = (a, e, nx) :: rest →
          rest = (linesF fr ((bs.take to).drop fr)).drop (n + 1) ∧ n + 1 ≤ (linesF fr ((bs.take to).drop fr)).length ∧
          YieldAt Fence.wide 0 Tryd.prog l #[.agg #[.int .i64 a, .int .i64 E, .int .i64 N]] (wr.alloc (.cells #[.int .i64 a, .int .i64 E, .int .i64 N] 104)) fun e' W' =>
            (e' = .returned (.bool true) ∧ J (n + 1) W' ∧ W'.cell? ⟨wr.heap.size, 2, none⟩ = some (.int .i64 N)) ∨ (e' = .returned (.bool false) ∧ Jx W') := by
        intro e nx E N rest hE hN hl
        subst hE hN
        have h1 := HX.out.1
        rw [hl] at h1
        have hxx : (linesF fr ((bs.take to).drop fr))[n]? = some (a, e, nx) := by
          have h2 := congrArg (fun l => l[0]?) h1
          simp only [List.getElem?_drop, Nat.add_zero] at h2
          rw [← h2]
          rfl
        have hrest : rest = (linesF fr ((bs.take to).drop fr)).drop (n + 1) := by
          have h2 := congrArg (List.drop 1) h1
          rw [List.drop_drop] at h2
          exact h2
        refine ⟨hrest, (List.getElem?_eq_some_iff.1 hxx).1, ?_⟩
        have hga : wr.grownBy (wr.alloc (.cells #[.int .i64 a, .int .i64 e, .int .i64 nx] 104)) none := World.grownBy_alloc _ _ _
        have hst := hab.step n wr _ none hJ hga (fun r e => by cases e)
        have hTX : ¬ T (wr.alloc (.cells #[.int .i64 a, .int .i64 e, .int .i64 nx] 104)) wr.heap.size := fun h => Nat.lt_irrefl _ (hab.lt n wr _ hJ (hst.2 _ h))
        have hX2 : (wr.alloc (.cells #[.int .i64 a, .int .i64 e, .int .i64 nx] 104)).cell? ⟨wr.heap.size, 2, none⟩ = some (.int .i64 nx) := by simp
        have hXl : wr.heap.size < (wr.alloc (.cells #[.int .i64 a, .int .i64 e, .int .i64 nx] 104)).heap.size := by simp
        obtain ⟨fn, tmps, assign, body, hy, hRd⟩ := hR n (a, e, nx) _ hxx hst.1
        refine ⟨fn, tmps, assign, body, hy, hRd.mono ?_⟩
        rintro e' W3 (⟨rfl, hJ3, hk3⟩ | ⟨rfl, hJx3⟩)
        · exact .inl ⟨rfl, hJ3, (World.cell?_of_block (hk3.block _ hXl hTX).1).trans hX2⟩
        · exact .inr ⟨rfl, hJx3⟩
      by_cases hk : Lib.indexByte seg 10 < 0
      · have hk1 : Lib.indexByte seg 10 = -1 := by have := Lib.indexByte_ge seg 10; omega
        rw [hk1] at hidx
        rw [if_pos hk] at hxs
        obtain ⟨hr1, hr2, fn, tmps, assign, body, hy, hRd⟩ := fin to to to to [] rfl rfl (by rw [hxs, HSL.out]; congr 3 <;> omega)
        have HR1 := (show Hid _ from hr1)
        have HR2 := (show Hid _ from hr2)
        clear hxs hk hk1 hwa hsne fin hr1 hr2
        gi_wp2
        refine ⟨trivial, (hidx _).mono ?_⟩
        clear hidx
        rintro e w' ⟨rfl, rfl⟩
        gi_wp2
        refine hRd.mono ?_
        rintro e W3 (⟨rfl, hJ3, hX3⟩ | ⟨rfl, hJx3⟩)
        · gi_wp2
          go_roundw
          case rel =>
            refine ⟨to, n + 1, rfl, by omega, by omega, hJ3, ?_, HR2.out⟩
            have h3 : (bs.take to).drop to = [] := by simp
            rw [h3, linesF_nil]
            exact HR1.out
          case measure => simp [intOf]; omega
        · gi_wp2
          refine bodyPost_ret (results_none rfl _ _ _) rfl ?_
          exact ⟨⟨_, rfl⟩, .inr hJx3⟩
      · obtain ⟨q, hq⟩ : ∃ q : Nat, Lib.indexByte seg 10 = q := ⟨(Lib.indexByte seg 10).toNat, by omega⟩
        rw [hq] at hidx
        rw [if_neg hk, hq] at hxs
        have hq0 := Lib.indexByte_some hq
        have hql : q < seg.length := (List.getElem?_eq_some_iff.1 hq0.1).1
        have hqa : q < to - a := by rw [← HSL.out]; exact hql
        have hdr : seg.drop (q + 1) = (bs.take to).drop (a + q + 1) := by rw [← hseg, List.drop_drop, Nat.add_assoc]
        have hxs' : linesF a seg = (a, a + (if 0 < q ∧ seg[q - 1]? = some 13 then q - 1 else q), a + q + 1) :: linesF (a + q + 1) ((bs.take to).drop (a + q + 1)) := by rw [← hdr]; exact hxs
        have z1 : (0 : Int) ≤ (q : Int) := by omega
        by_cases hq1 : 0 < q
        · have z2 : (0 : Int) < (q : Int) := by omega
          obtain ⟨y, hy0⟩ : ∃ y, seg[q - 1]? = some y := ⟨_, List.getElem?_eq_getElem (by omega)⟩
          have hcb : ∀ cs, (wr.alloc (.cells cs 104)).cell? ⟨b, off + (a + q - 1), none⟩ = some (.int .u8 y.toNat) := by
            intro cs
            have := HCS.out _ (hwa cs) (q - 1) y hy0
            rw [show off + (a + q - 1) = off + a + (q - 1) by omega]
            exact this
          by_cases h13 : y = 13
          · have hq13 : ((y.toNat : Int) == 13) = true := by rw [h13]; rfl
            obtain ⟨hr1, hr2, fn, tmps, assign, body, hy, hRd⟩ := fin (a + (q - 1)) (a + q + 1) (a + q - 1) (a + q + 1) _ (by omega) (by omega) (by rw [hxs', if_pos ⟨hq1, by rw [hy0, h13]⟩])
            have HR1 := (show Hid _ from hr1)
            have HR2 := (show Hid _ from hr2)
            clear hxs hxs' hk hwa hsne fin hr1 hr2 hq hq0 hql hdr hy0 h13
            gi_wp2
            refine ⟨trivial, (hidx _).mono ?_⟩
            clear hidx
            rintro e w' ⟨rfl, rfl⟩
            gi_wp2
            refine hRd.mono ?_
            rintro e W3 (⟨rfl, hJ3, hX3⟩ | ⟨rfl, hJx3⟩)
            · gi_wp2
              go_roundw
              case rel => exact ⟨a + q + 1, n + 1, by push_cast; rfl, by omega, by omega, hJ3, HR1.out, HR2.out⟩
              case measure => simp [intOf]; omega
            · gi_wp2
              refine bodyPost_ret (results_none rfl _ _ _) rfl ?_
              exact ⟨⟨_, rfl⟩, .inr hJx3⟩
          · have h13' : y.toNat ≠ 13 := fun e => h13 (UInt8.toNat_inj.1 e)
            have hq13 : ((y.toNat : Int) == 13) = false := beq_eq_false_iff_ne.2 (by omega)
            obtain ⟨hr1, hr2, fn, tmps, assign, body, hy, hRd⟩ := fin (a + q) (a + q + 1) (a + q) (a + q + 1) _ (by omega) (by omega) (by rw [hxs', if_neg (by rw [hy0]; simp; intro _; exact h13)])
            have HR1 := (show Hid _ from hr1)
            have HR2 := (show Hid _ from hr2)
            clear hxs hxs' hk hwa hsne fin hr1 hr2 hq hq0 hql hdr hy0 h13
            gi_wp2
            refine ⟨trivial, (hidx _).mono ?_⟩
            clear hidx
            rintro e w' ⟨rfl, rfl⟩
            gi_wp2
            refine hRd.mono ?_
            rintro e W3 (⟨rfl, hJ3, hX3⟩ | ⟨rfl, hJx3⟩)
            · gi_wp2
              go_roundw
              case rel => exact ⟨a + q + 1, n + 1, by push_cast; rfl, by omega, by omega, hJ3, HR1.out, HR2.out⟩
              case measure => simp [intOf]; omega
            · gi_wp2
              refine bodyPost_ret (results_none rfl _ _ _) rfl ?_
              exact ⟨⟨_, rfl⟩, .inr hJx3⟩
        · have z2 : ¬ (0 : Int) < (q : Int) := by omega
          obtain ⟨hr1, hr2, fn, tmps, assign, body, hy, hRd⟩ := fin (a + q) (a + q + 1) (a + q) (a + q + 1) _ (by omega) (by omega) (by rw [hxs', if_neg (fun h => hq1 h.1)])
          have HR1 := (show Hid _ from hr1)
          have HR2 := (show Hid _ from hr2)
          clear hxs hxs' hk hwa hsne fin hr1 hr2 hq hq0 hql hdr
          gi_wp2
          refine ⟨trivial, (hidx _).mono ?_⟩
          clear hidx
          rintro e w' ⟨rfl, rfl⟩
          gi_wp2
          refine hRd.mono ?_
          rintro e W3 (⟨rfl, hJ3, hX3⟩ | ⟨rfl, hJx3⟩)
          · gi_wp2
            go_roundw
            case rel => exact ⟨a + q + 1, n + 1, by push_cast; rfl, by omega, by omega, hJ3, HR1.out, HR2.out⟩
            case measure => simp [intOf]; omega
          · gi_wp2
            refine bodyPost_ret (results_none rfl _ _ _) rfl ?_
            exact ⟨⟨_, rfl⟩, .inr hJx3⟩
    · have hltz : ¬ ((a : Int) < (to : Int)) := by omega
      gi_wp2
      go_end0
      obtain rfl : a = to := by omega
      have h1 := HX.out.1
      have h3 : (bs.take a).drop a = [] := by simp
      rw [h3, linesF_nil] at h1
      have h2 : (linesF fr ((bs.take a).drop fr)).length ≤ n := List.drop_eq_nil_iff.1 h1.symm
      have h4 := HX.out.2
      have : n = (linesF fr ((bs.take a).drop fr)).length := by omega
      rw [← this]
      exact ⟨⟨_, rfl⟩, .inl hJ⟩
end Go.Proofs.YtemgbdncidgoiaaDoor
end
section
namespace Go.Proofs.YtemgbdncidgoiaaDoor
open Go.RowKit Go.Shelf Go.Rg
set_option maxRecDepth 100000 in
set_option maxHeartbeats 1000000 in
theorem all1_none (base : World) (S : Nat) (x : Value) (fr to : Int) (hft : ¬ fr < to)
    (hs0 : base.cell? ⟨S, 0, none⟩ = some (.int .i64 fr)) (hs1 : base.cell? ⟨S, 1, none⟩ = some (.int .i64 to)) :
    Tells Tryd.prog 96 #[.pointer (some ⟨S, 0, none⟩), x] encLn [] base := by
  intro l J Jx T W hab hR h0
  have hob := hab.old 0 W h0
  have hS : S < base.heap.size := World.block_lt_of_cell? base _ hs0
  have hS0 : W.cell? ⟨S, 0, none⟩ = some (.int .i64 fr) := (hob.cell (p := ⟨S, 0, none⟩) hS).trans hs0
  have hS1 : W.cell? ⟨S, 1, none⟩ = some (.int .i64 to) := (hob.cell (p := ⟨S, 1, none⟩) hS).trans hs1
  refine callsIn_of_wp Tryd.func96 rfl trivial ?_ rfl
  simp only [Tryd.ntmps96, List.size_toArray, List.length_cons, List.length_nil, Nat.reduceAdd, Nat.reduceSub, Array.replicate_succ, Array.replicate_zero, List.push_toArray, List.append_toArray, List.nil_append, List.cons_append]
  gi_wp2
  gi_loopw [4] (fun i wr => i = .int .i64 fr ∧ wr = W) (fun _ _ => 0)
  case atStart => exact ⟨rfl, rfl⟩
  case round =>
    obtain ⟨rfl, rfl⟩ := hrel
    gi_wp2
    go_end0
    exact ⟨⟨_, rfl⟩, .inl h0⟩
set_option maxHeartbeats 1000000 in
theorem all_c (x : Value) (fr to : Int) (w : World) (hx : ∃ a l c, x = .slice a l c) : Calls Tryd.prog 75 #[x, .agg #[.int .i64 fr, .int .i64 to]] w fun e w' =>
    e = .returned (.func (.func 96) #[] #[.pointer (some ⟨w.heap.size + 1, 0, none⟩), .pointer (some ⟨w.heap.size, 0, none⟩)]) ∧ w' = (w.alloc (.cells #[x] 32)).alloc (.cells #[.int .i64 fr, .int .i64 to] 24) := by
  obtain ⟨a, l, c, rfl⟩ := hx
  go_enter Tryd.func75, Tryd.ntmps75
  go_wp2
  go_ret
  exact ⟨rfl, rfl⟩
set_option maxHeartbeats 1000000 in
theorem within_c (fr to n : Int) (w : World) : Calls Tryd.prog 73 #[.agg #[.int .i64 fr, .int .i64 to], .int .i64 n] w fun e w' =>
    e = .returned (.bool (decide (0 ≤ fr ∧ fr ≤ to ∧ to ≤ n))) ∧ w' = w.alloc (.cells #[.int .i64 fr, .int .i64 to] 24) := by
  by_cases h1 : 0 ≤ fr
  · by_cases h2 : fr ≤ to
    · by_cases h3 : to ≤ n
      · have e : decide (0 ≤ fr ∧ fr ≤ to ∧ to ≤ n) = true := by simp [h1, h2, h3]
        rw [e]
        go_enter Tryd.func73, Tryd.ntmps73
        go_wp2
        go_ret
        exact ⟨rfl, rfl⟩
      · have e : decide (0 ≤ fr ∧ fr ≤ to ∧ to ≤ n) = false := by simp [h3]
        rw [e]
        go_enter Tryd.func73, Tryd.ntmps73
        go_wp2
        go_ret
        exact ⟨rfl, rfl⟩
    · have e : decide (0 ≤ fr ∧ fr ≤ to ∧ to ≤ n) = false := by simp [h2]
      rw [e]
      go_enter Tryd.func73, Tryd.ntmps73
      go_wp2
      go_ret
      exact ⟨rfl, rfl⟩
  · have e : decide (0 ≤ fr ∧ fr ≤ to ∧ to ≤ n) = false := by simp [h1]
    rw [e]
    go_enter Tryd.func73, Tryd.ntmps73
    go_wp2
    go_ret
    exact ⟨rfl, rfl⟩
theorem cell_newB (W : World) (cs : Array Value) (t : TypeId) (n i : Nat) (v : Value) (h : W.heap.size = n) (hv : cs[i]? = some v) : (W.alloc (.cells cs t)).cell? ⟨n, i, none⟩ = some v := by
  subst h
  have := World.alloc_heap_new W (.cells cs t)
  simp only [World.cell?, this]
  exact hv
theorem linesG_length : ∀ (n a : Nat) (s : List UInt8), (linesG n a s).length ≤ s.length
  | 0, a, s => by simp [linesG]
  | n + 1, a, s => by
    unfold linesG
    split
    · simp
    · rename_i hs
      have hp : 0 < s.length := List.length_pos_iff.2 hs
      split
      · simp; omega
      · have := linesG_length n (a + (Lib.indexByte s 10).toNat + 1) (s.drop ((Lib.indexByte s 10).toNat + 1))
        rw [List.length_drop] at this
        simp only [List.length_cons]
        omega
def linesOf (fr to : Int) (bs : List UInt8) : List (Nat × Nat × Nat) := if 0 ≤ fr ∧ fr ≤ to ∧ to ≤ bs.length then linesF fr.toNat ((bs.take to.toNat).drop fr.toNat) else []
theorem linesOf_length (fr to : Int) (bs : List UInt8) : (linesOf fr to bs).length ≤ bs.length := by
  unfold linesOf
  split
  · exact Nat.le_trans (linesG_length _ _ _) (by simp; omega)
  · simp
set_option maxRecDepth 100000 in
set_option maxHeartbeats 1000000 in
theorem of_c (a : Option Addr) (cap : Nat) (bs : List UInt8) (fr to : Int) (w : World) (hcap : bs.length ≤ cap) (ha : a = none → cap = 0) (hmax : bs.length < 1099511627776)
    (hc : ∀ p, a = some p → bs ≠ [] → p.spot = none ∧ ∀ j x, bs[j]? = some x → w.cell? ⟨p.block, p.off + j, none⟩ = some (.int .u8 x.toNat)) :
    Calls Tryd.prog 55 #[.slice a bs.length cap, .agg #[.int .i64 fr, .int .i64 to]] w fun e w' =>
      ∃ v : Value, e = .returned v ∧ w'.ownsRow w.heap.size 104 3 v (linesOf fr to bs).length (cellsLn (linesOf fr to bs)) ∧ Below w.heap.size w w' := by
  have HC : Aside (∀ p, a = some p → bs ≠ [] → p.spot = none ∧ ∀ j x, bs[j]? = some x → w.cell? ⟨p.block, p.off + j, none⟩ = some (.int .u8 x.toNat)) := hc
  clear hc
  by_cases hin : 0 ≤ fr ∧ fr ≤ to ∧ to ≤ bs.length
  · have hd : decide (0 ≤ fr ∧ fr ≤ to ∧ to ≤ (bs.length : Int)) = true := by simpa using hin
    have hl : linesOf fr to bs = linesF fr.toNat ((bs.take to.toNat).drop fr.toNat) := by unfold linesOf; rw [if_pos hin]
    have hlen := linesOf_length fr to bs
    go_enter Tryd.func55, Tryd.ntmps55
    go_wp2_with (first
      | (go_at_call 73; refine (within_c fr to _ _).mono ?_; rintro e w' ⟨rfl, hw⟩; rw [hw, hd])
      | (go_at_call 75; refine (all_c _ fr to _ ⟨_, _, _, rfl⟩).mono ?_; rintro e w' ⟨rfl, hw⟩; rw [hw])
      | (go_at_call 74; refine (collect_in 96 _ (enters_of Tryd.func96 (by kernel_rfl) rfl) (linesOf fr to bs) ?c1 ?c2 _ ?c3).mono ?_))
    case c1 => unfold maxLen; omega
    case c2 => omega
    case c3 =>
      generalize hW : (((w.alloc (Obj.cells #[Value.int IntKind.i64 fr, Value.int IntKind.i64 to] 24)).alloc (Obj.cells #[Value.int IntKind.i64 fr, Value.int IntKind.i64 to] 24)).alloc (Obj.cells #[Value.slice a bs.length cap] 32)).alloc (Obj.cells #[Value.int IntKind.i64 fr, Value.int IntKind.i64 to] 24) = W
      have s0 : W.cell? ⟨w.heap.size + 1 + 1 + 1, 0, none⟩ = some (.int .i64 fr) := by rw [← hW]; exact cell_newB _ _ _ _ _ _ (by simp) rfl
      have s1 : W.cell? ⟨w.heap.size + 1 + 1 + 1, 1, none⟩ = some (.int .i64 to) := by rw [← hW]; exact cell_newB _ _ _ _ _ _ (by simp) rfl
      have b0 : W.cell? ⟨w.heap.size + 1 + 1, 0, none⟩ = some (.slice a bs.length cap) := by
        rw [← hW]
        refine (World.cell?_of_block (Below.heap_alloc _ _ _ (by simp))).trans ?_
        exact cell_newB _ _ _ _ _ _ (by simp) rfl
      have hold : ∀ k, k < w.heap.size → W.heap[k]? = w.heap[k]? := fun k hk => by
        rw [← hW]
        exact (Below.heap_alloc _ _ k (by simp; omega)).trans ((Below.heap_alloc _ _ k (by simp; omega)).trans ((Below.heap_alloc _ _ k (by simp; omega)).trans (Below.heap_alloc _ _ k hk)))
      by_cases hft : fr < to
      · have hbne : bs ≠ [] := fun e => by rw [e] at hin; simp at hin; omega
        cases ha0 : a with
        | none => have := ha ha0; have := List.length_pos_iff.2 hbne; omega
        | some p =>
          obtain ⟨hp1, hp2⟩ := HC.out p ha0 hbne
          obtain ⟨pb, po, ps⟩ := p
          simp only at hp1 hp2
          subst hp1
          rw [ha0] at b0
          obtain ⟨F, hF⟩ : ∃ F : Nat, fr = F := ⟨fr.toNat, by omega⟩
          obtain ⟨E, hE⟩ : ∃ E : Nat, to = E := ⟨to.toNat, by omega⟩
          rw [hl, hF, hE]
          rw [hF] at s0
          rw [hE] at s1
          exact all1_tells W (w.heap.size + 1 + 1 + 1) (w.heap.size + 1 + 1) pb po cap F E bs (by omega) (by omega) hcap (by omega) s0 s1 b0 (fun j x hx => by
            have h1 := hp2 j x hx
            have h2 := hold pb (World.block_lt_of_cell? w _ h1)
            simp only [World.cell?] at h1 ⊢
            rw [h2]; exact h1)
      · have he : linesOf fr to bs = [] := by
          rw [hl]
          have : fr = to := by omega
          rw [this]
          have h3 : (bs.take to.toNat).drop to.toNat = [] := by simp
          rw [h3]; rfl
        rw [he]
        exact all1_none W _ _ fr to hft s0 s1
    rintro e w' ⟨v, rfl, hrow, hb⟩
    go_wp2
    go_ret
    refine ⟨v, rfl, ownsRow_base hrow (by simp; omega), ?_⟩
    refine Below.trans ?_ (hb.mono (by simp; omega))
    exact ((((Below.refl _ w).alloc (Nat.le_refl _) _).alloc (by simp) _).alloc (by simp; omega) _).alloc (by simp; omega) _
  · have hd : decide (0 ≤ fr ∧ fr ≤ to ∧ to ≤ (bs.length : Int)) = false := by simpa using hin
    have hl : linesOf fr to bs = [] := by unfold linesOf; rw [if_neg hin]
    rw [hl]
    go_enter Tryd.func55, Tryd.ntmps55
    go_wp2_with (first
      | (go_at_call 73; refine (within_c fr to _ _).mono ?_; rintro e w' ⟨rfl, hw⟩; rw [hw, hd]))
    go_ret
    exact ⟨.slice none 0 0, rfl, World.ownsRow_nil _ _ _ _, ((Below.refl _ w).alloc (Nat.le_refl _) _).alloc (by simp) _⟩
end Go.Proofs.YtemgbdncidgoiaaDoor
end
section
namespace Go.Proofs.YtemgbdncidgoiaaDoor
open Go.Shelf Go.RowKit Go.Ev
theorem bldSize : (Tryd.prog.info? 152).map (·.size) = some 2 := by kernel_rfl
theorem bldLies : liesAt Tryd.prog Tryd.prog.depth 152 (2 / Tryd.prog.cellsOf 152) 0 152 1 = true := by kernel_rfl
theorem byteCells : Tryd.prog.cellsOf 5 = 1 := by kernel_rfl
set_option maxHeartbeats 1000000 in
set_option maxRecDepth 100000 in
theorem check_used (b : Nat) (w : World) (h0 : w.cell? ⟨b, 0, none⟩ = some (.pointer (some ⟨b, 0, none⟩))) :
    Calls Tryd.prog 108 #[.pointer (some ⟨b, 0, none⟩)] w fun e w' => e = .returned (.tuple #[]) ∧ w' = w := by
  obtain ⟨j, hj, _⟩ := Option.map_eq_some_iff.1 bldSize
  go_enter Tryd.func108, Tryd.ntmps108
  go_wp2
  rw [Lib.run_neq_ptr_same w _ Tryd.underlying150 hj]
  go_wp2
  go_end0
  exact ⟨rfl, rfl⟩
set_option maxHeartbeats 1000000 in
set_option maxRecDepth 100000 in
theorem check_fresh (b : Nat) (w : World) (h0 : w.cell? ⟨b, 0, none⟩ = some (.pointer none)) (hsh : w.shape? b = some (152, 2)) (hfz : w.frozen? ⟨b, 0, none⟩ = false) :
    Calls Tryd.prog 108 #[.pointer (some ⟨b, 0, none⟩)] w fun e w' => e = .returned (.tuple #[]) ∧ w' = w.setCell ⟨b, 0, none⟩ (.pointer (some ⟨b, 0, none⟩)) := by
  obtain ⟨j, hj, hjs⟩ := Option.map_eq_some_iff.1 bldSize
  go_enter Tryd.func108, Tryd.ntmps108
  go_wp2
  rw [Lib.run_to_unsafe w ⟨b, 0, none⟩ Tryd.underlying150 Tryd.underlying172 hj (by rw [hjs]; decide) hsh (Nat.zero_lt_succ 1)]
  simp only [Result.andThen]
  rw [Oper.upon_value]
  go_wp2
  rw [run_callFunc_extern Tryd.func117 (by kernel_rfl) (by kernel_rfl) (by kernel_rfl) (e := Extern.AbiNoEscape.same) (by kernel_rfl)]
  rw [Lib.run_noEscape]
  simp only [Result.andThen]
  rw [Oper.upon_value]
  go_wp2
  rw [Lib.run_from_unsafe w ⟨b, 0, none⟩ Tryd.underlying172 Tryd.underlying150 hj hsh bldLies]
  simp only [Result.andThen]
  rw [Oper.upon_value]
  go_wp2
  go_end0
  exact ⟨rfl, rfl⟩
set_option maxHeartbeats 2000000 in
set_option maxRecDepth 100000 in
theorem string_some (b g cap cells : Nat) (l : List UInt8) (w : World) (h0 : l ≠ []) (hc1 : w.cell? ⟨b, 1, none⟩ = some (.slice (some ⟨g, 0, none⟩) l.length cap)) (hn : l.length ≤ cap)
    (hsh : w.shape? g = some (5, cells)) (hcl : l.length ≤ cells) (hbig : l.length ≤ 9223372036854775807) (hcell : ∀ j x, l[j]? = some x → w.cell? ⟨g, j, none⟩ = some (.int .u8 x.toNat)) :
    Calls Tryd.prog 92 #[.pointer (some ⟨b, 0, none⟩)] w fun e w' => e = .returned (.string ⟨l.toArray⟩) ∧ w' = w.drew.freeze ⟨g, 0, none⟩ l.length := by
  have hl0 : l.length ≠ 0 := by simpa using h0
  have c1 : w.drew.cell? ⟨b, 1, none⟩ = some (.slice (some ⟨g, 0, none⟩) l.length cap) := hc1
  have hSD : (Builtin.unsafeSliceData_ #[32] 163 #[.slice (some ⟨g, 0, none⟩) l.length cap]).run Tryd.prog w.drew = .ok (.pointer (some ⟨g, 0, none⟩)) w.drew :=
    Lib.run_unsafeSliceData_row _ _ _ _ _ _ (by omega)
  have hUS : (Builtin.unsafeString_ #[163, 3] 9 #[.pointer (some ⟨g, 0, none⟩), .int .i64 l.length]).run Tryd.prog w.drew = .ok (.string ⟨l.toArray⟩) (w.drew.freeze ⟨g, 0, none⟩ l.length) := by
    refine Lib.run_unsafeString_row w.drew 163 3 9 5 Tryd.underlying163 byteCells g cells hsh l h0 hcl (by omega) ?_
    intro j x hx
    have := hcell j x hx
    rw [Addr.add_lit, Nat.zero_add]
    exact this
  go_enter Tryd.func92, Tryd.ntmps92
  go_wp2
  go_region
  all_goals (go_wp2; go_ret; exact ⟨rfl, rfl⟩)
theorem viewAt_ok {P : Program} {w : World} {b : Nat} (h : b < w.heap.size) : ∃ r, (viewAt b).run P w = .ok r w := by
  obtain ⟨o, ho⟩ : ∃ o, w.heap[b]? = some o := ⟨_, Array.getElem?_eq_getElem h⟩
  unfold viewAt
  cases hs : w.shape? b with
  | some sh => exact ⟨none, by simp [hs]⟩
  | none =>
    cases o with
    | cells c e fr => simp [World.shape?, ho] at hs
    | view p t =>
      have hg : (getObj b).run P w = .ok (.view p t) w := by simp [getObj, Sem.run, ho]
      exact ⟨_, by simp [hs, hg]; rfl⟩
    | _ =>
      have hg : ∃ x, (getObj b).run P w = .ok x w ∧ ∀ p t, x ≠ .view p t := ⟨_, by simp only [getObj, Sem.run, ho]; exact ⟨rfl, fun p t e => by cases e⟩⟩
      obtain ⟨x, hg, hx⟩ := hg
      refine ⟨none, ?_⟩
      simp [hs, hg]
set_option maxHeartbeats 2000000 in
set_option maxRecDepth 100000 in
theorem string_none (b cap : Nat) (a : Option Addr) (w : World) (hc1 : w.cell? ⟨b, 1, none⟩ = some (.slice a 0 cap)) (ha : ∀ p, a = some p → p.block < w.heap.size) :
    Calls Tryd.prog 92 #[.pointer (some ⟨b, 0, none⟩)] w fun e w' => e = .returned (.string ⟨#[]⟩) ∧ (w' = w.drew ∨ ∃ o, w' = w.drew.alloc o) := by
  have hUS : ∀ q W, (Builtin.unsafeString_ #[163, 3] 9 #[.pointer q, .int .i64 0]).run Tryd.prog W = .ok (.string .empty) W := fun q W => Lib.run_unsafeString_none W _ _ _ q
  have hbl : b < w.heap.size := World.block_lt_of_cell? w _ hc1
  have c1 : w.drew.cell? ⟨b, 1, none⟩ = some (.slice a 0 cap) := hc1
  have hSD : ∃ q W, (Builtin.unsafeSliceData_ #[32] 163 #[.slice a 0 cap]).run Tryd.prog w.drew = .ok (.pointer q) W ∧ (W = w.drew ∨ ∃ o, W = w.drew.alloc o) := by
    cases a with
    | none => exact ⟨none, _, rfl, .inl rfl⟩
    | some p =>
      by_cases h0 : cap = 0
      · subst h0
        obtain ⟨r, hr⟩ := viewAt_ok (P := Tryd.prog) (w := w.drew) (b := p.block) (ha p rfl)
        have hdef : Builtin.unsafeSliceData_ #[32] 163 #[.slice (some p) 0 0] =
            (do
              if (0 : Nat) ≠ 0 then pure (.pointer (some p))
              else if (← viewAt p.block).isSome then pure (.pointer (some p))
              else pure (.pointer (some ⟨← newObj (.view p (← elemOf 163)), 0, none⟩))) := rfl
        rw [hdef]
        cases r with
        | some r => exact ⟨some p, w.drew, by simp [hr], .inl rfl⟩
        | none => exact ⟨_, _, by simp [hr, elemOf, run_underlying Tryd.underlying163]; exact ⟨rfl, rfl⟩, .inr ⟨_, rfl⟩⟩
      · exact ⟨some p, w.drew, Lib.run_unsafeSliceData_row _ _ _ _ _ _ h0, .inl rfl⟩
  obtain ⟨q, W, hSD, hW⟩ := hSD
  have c2 : W.cell? ⟨b, 1, none⟩ = some (.slice a 0 cap) := by
    rcases hW with rfl | ⟨o, rfl⟩
    · exact c1
    · exact (World.cell?_of_block (Below.heap_alloc w.drew o b hbl)).trans c1
  go_enter Tryd.func92, Tryd.ntmps92
  go_wp2
  go_region
  all_goals (go_wp2; go_ret; exact ⟨rfl, hW⟩)
end Go.Proofs.YtemgbdncidgoiaaDoor
end
section
namespace Go.Ev
section
variable {c : Cfg} {E : Ent} {w w' : World} {G G' : Gh} {μ : List Nat} {env : List V} {tmps : List Value} {objs : List Ob}
theorem Sim.regrind (h : Sim c E w G μ env tmps objs) {g : Nat} (hg : g < E.w.heap.size → E.U g) (hfree : cnt g (zipF leaf3 env tmps) + cnt g (leafO w objs μ) + μ.count g = 0)
    (hk : ∀ k, k ≠ g → w'.heap[k]? = w.heap[k]?) (hcell : ∀ o, w'.cell? ⟨g, o, none⟩ = w.cell? ⟨g, o, none⟩) (hs : w'.heap.size = w.heap.size) (hos : w'.os = w.os) (hout : w'.output = w.output) (htape : w'.tape = w.tape) :
    Sim c E w' G μ env tmps objs := by
  have hseal : Seal w G w' G := ⟨fun b o _ => by
    by_cases hb : b = g
    · subst hb; exact hcell o
    · exact cell?_of_heap (hk b hb), fun _ => Nat.le_refl _, by omega⟩
  have hμ : ∀ b ∈ μ, b ≠ g := fun b hb e => by subst e; have := List.count_pos_iff.2 hb; omega
  have hO : leafO w' objs μ = leafO w objs μ := leafO_same objs μ fun b hb => hk b (hμ b hb)
  have hl : ∀ l ∈ zipF leaf3 env tmps ++ leafO w objs μ, l.a.block ≠ g := fun l hl e => by
    rw [List.mem_append] at hl
    rcases hl with hl | hl
    · have := cnt_pos.2 ⟨l, hl, e⟩; omega
    · have := cnt_pos.2 ⟨l, hl, e⟩; omega
  refine ⟨⟨h.inv.len, fun i v x hv hx => (h.inv.rep i v x hv hx).mono hseal, h.inv.olen, fun i o b ho hb => (h.inv.obs i o b ho hb).mono hseal (hk b (hμ b (List.mem_of_getElem? hb))),
    fun b => by rw [hO]; exact h.inv.one b, fun l hl' => ?_, fun b hb => ⟨by rw [hs]; exact (h.inv.mine b hb).1, (h.inv.mine b hb).2⟩, fun b hb => h.inv.none b (by omega)⟩,
    ⟨by rw [hs]; exact h.stp.size, h.stp.sealed.trans hseal, fun b hb hu => ?_, hos.trans h.stp.os, hout.trans h.stp.out, htape.trans h.stp.tape⟩, fun b hb hc => h.own b hb (by rw [hO] at hc; exact hc), h.pre⟩
  · rw [hO] at hl'
    exact (h.inv.ok l hl').same (hk _ (hl l hl')) rfl hseal
  · have hne : b ≠ g := fun e => hu (by subst e; exact hg hb)
    exact ⟨(hk b hne).trans (h.stp.keep b hb hu).1, (h.stp.keep b hb hu).2⟩
theorem Sim.begin_ {args : List V} {cargs : List Value} (hinv : Inv c w G μ args cargs objs) : Sim c (entry w G μ args cargs objs) w G μ args cargs objs :=
  ⟨hinv, ⟨Nat.le_refl _, Seal.refl w G, fun _ _ _ => ⟨rfl, rfl⟩, rfl, rfl, rfl⟩, fun b _ h => h, [], by simp [entry]⟩
def checkF : Fun
  | [.ref 0 0], [.cells [.opt 0 0, .lst 5 true xs]] => some (.tup [], [.cells [.opt 0 0, .lst 5 true xs]])
  | _, _ => none
def byteV : V → Bool
  | .int .u8 n => decide (0 ≤ n) && decide (n < 256)
  | _ => false
theorem byteV_all : ∀ {xs : List V}, xs.all byteV = true → ofBytes (bytesOf xs) = xs
  | [], _ => rfl
  | v :: xs, h => by
    simp only [List.all_cons, Bool.and_eq_true] at h
    have ih := byteV_all h.2
    cases v with
    | int k n =>
      cases k <;> simp [byteV] at h
      simp only [bytesOf, ofBytes, List.map_cons, V.getI] at ih ⊢
      rw [ih]
      congr 2
      have := h.1
      simp
      omega
    | _ => simp [byteV] at h
def textF : Fun
  | [.ref 0 0], [.cells [.opt 0 0, .lst 5 true xs]] => if xs.all byteV && decide (xs.length < 1099511627776) then some (.str (bytesOf xs), [.cells [.opt 0 0, .lst 5 false xs]]) else none
  | _, _ => none
end
end Go.Ev
namespace Go.Proofs.YtemgbdncidgoiaaDoor
open Go.Shelf Go.RowKit Go.Ev
theorem check_ok {c : Cfg} (hP : c.P = Tryd.prog) (hb : ∀ t, c.bld t = true → t = 152) (hcut : c.cutO 108 = false)
    (hr : ∀ fn rsh, c.fn 108 = some fn → rshOf c 108 fn = some rsh → fitsRes rsh (.tup []) = true) : FunOk c 108 checkF := by
  have hF : ∀ args objs v objs', checkF args objs = some (v, objs') → ∃ xs, args = [.ref 0 0] ∧ objs = [.cells [.opt 0 0, .lst 5 true xs]] ∧ v = .tup [] ∧ objs' = objs := by
    intro args objs v objs' h
    unfold checkF at h
    split at h
    · cases h; exact ⟨_, rfl, rfl, rfl, rfl⟩
    · cases h
  refine ⟨fun args objs v objs' _ h => ?_, fun fn rsh hfn hrsh args objs v objs' h w G μ cargs hlen hinv => ?_⟩
  · obtain ⟨_, _, _, _, e⟩ := hF _ _ _ _ h
    exact e
  · obtain ⟨xs, rfl, rfl, rfl, rfl⟩ := hF _ _ _ _ h
    refine ⟨hr fn rsh hfn hrsh, ?_, ?_⟩
    · simp [Cfg.osh, hcut, OSh.of, fitsObs, OSh.fits, CSh.of, fitsCells, CSh.fits]
    · have hol := hinv.olen
      obtain ⟨b, rfl⟩ : ∃ b, μ = [b] := by
        match μ, hol with
        | [b], _ => exact ⟨b, rfl⟩
      have hsim := Sim.begin_ hinv
      obtain ⟨x, rfl⟩ : ∃ x, cargs = [x] := by
        match cargs, hlen with
        | [x], _ => exact ⟨x, rfl⟩
      obtain ⟨b', hb', rfl⟩ := ref_of (hinv.rep 0 _ _ rfl rfl) rfl
      simp at hb'
      subst hb'
      obtain ⟨l, elem, fr, h1, h2, h3, h4, h5, h6⟩ := hinv.obs 0 _ _ rfl rfl
      have hel := hb elem (h6 0 0 rfl)
      subst hel
      match l, h3 with
      | [x0, x1], _ =>
        have hr0 := h5 0 _ x0 rfl rfl
        have fin : ∀ w', Sim c (entry w G [b] [.ref 0 0] [.pointer (some ⟨b, 0, none⟩)] [.cells [.opt 0 0, .lst 5 true xs]]) w' G [b] [.ref 0 0] [.pointer (some ⟨b, 0, none⟩)] [.cells [.opt 0 0, .lst 5 true xs]] →
            Sim c (entry w G [b] [.ref 0 0] [.pointer (some ⟨b, 0, none⟩)] [.cells [.opt 0 0, .lst 5 true xs]]) w' G [b] [.tup []] [.tuple #[]] [.cells [.opt 0 0, .lst 5 true xs]] := fun w' hs =>
          (hs.push (v := .tup []) (x := .tuple #[]) (.tup [] [] rfl (fun i v x hv => by simp at hv)) rfl).firsts (fr := [.tup []]) (cfr := [.tuple #[]]) rfl
        have hx0 : x0 = .pointer none ∨ x0 = .pointer (some ⟨b, 0, none⟩) := by
          cases hr0 with
          | opt _ _ b' _ hb' hx => simp at hb'; subst hb'; exact hx
        have hc0 : w.cell? ⟨b, 0, none⟩ = some x0 := by simp [World.cell?, h1]
        rw [hP]
        rcases hx0 with rfl | rfl
        · have hsh : w.shape? b = some (152, 2) := by simp [World.shape?, h1]
          have hfz : w.frozen? ⟨b, 0, none⟩ = false := by
            have := h2 0 (by simp)
            simp [World.frozen?, h1]
            omega
          refine (check_fresh b w hc0 hsh hfz).mono ?_
          rintro e w' ⟨rfl, rfl⟩
          refine ⟨_, G, rfl, fin _ ?_⟩
          have hlt := heap_lt h1
          have hw : (w.setCell ⟨b, 0, none⟩ (.pointer (some ⟨b, 0, none⟩))).heap[b]? = some (.cells [.pointer (some ⟨b, 0, none⟩), x1].toArray 152 fr) := by
            simp only [World.setCell, Array.getElem?_modify, h1, if_true]
            rfl
          have hother : ∀ k, k ≠ b → (w.setCell ⟨b, 0, none⟩ (.pointer (some ⟨b, 0, none⟩))).heap[k]? = w.heap[k]? := fun k hk => Below.heap_setCell _ _ _ k hk
          have hG := (hinv.mine b (by simp)).2
          have hseal : Seal w G (w.setCell ⟨b, 0, none⟩ (.pointer (some ⟨b, 0, none⟩))) G := by
            refine ⟨fun k o ho => ?_, fun _ => Nat.le_refl _, by simp [World.setCell]⟩
            have : k ≠ b := fun e => by rw [e, hG] at ho; omega
            exact cell?_of_heap (hother k this)
          have := hsim.reob (i := 0) (b := b) (o := .cells [.opt 0 0, .lst 5 true xs]) (o' := .cells [.opt 0 0, .lst 5 true xs]) (w' := w.setCell ⟨b, 0, none⟩ (.pointer (some ⟨b, 0, none⟩)))
            (env' := [.ref 0 0]) (tmps' := [.pointer (some ⟨b, 0, none⟩)]) rfl rfl hother (by simp [World.setCell]) rfl rfl rfl (by simp) hinv.rep ?_ (fun q => ?_) (fun l hl => ?_)
          · exact this
          · refine ⟨[.pointer (some ⟨b, 0, none⟩), x1], _, fr, hw, h2, rfl, fun y hy => ?_, fun i v y hv hy => ?_, h6⟩
            · rcases List.mem_cons.1 hy with rfl | hy
              · rfl
              · exact h4 y (List.mem_cons_of_mem _ hy)
            · match i, hv, hy with
              | 0, hv, hy => simp at hv hy; subst hv; subst hy; exact .opt 0 0 b _ rfl (.inr rfl)
              | 1, hv, hy => simp at hv hy; subst hv; subst hy; exact (h5 1 _ x1 rfl rfl).mono hseal
          · have e1 : leafOb (w.setCell ⟨b, 0, none⟩ (.pointer (some ⟨b, 0, none⟩))) (.cells [.opt 0 0, .lst 5 true xs]) b = leafOb w (.cells [.opt 0 0, .lst 5 true xs]) b := by
              simp [leafOb, cellsAt, hw, h1, zipF, leaf1]
            rw [e1]; exact Nat.le_refl _
          · have e1 : leafOb (w.setCell ⟨b, 0, none⟩ (.pointer (some ⟨b, 0, none⟩))) (.cells [.opt 0 0, .lst 5 true xs]) b = leafOb w (.cells [.opt 0 0, .lst 5 true xs]) b := by
              simp [leafOb, cellsAt, hw, h1, zipF, leaf1]
            rw [e1] at hl; exact hl
        · refine (check_used b w hc0).mono ?_
          rintro e w' ⟨rfl, rfl⟩
          exact ⟨_, G, rfl, fin _ hsim⟩
theorem text_ok {c : Cfg} (hc : CfgOk c) (hP : c.P = Tryd.prog) (hcut : c.cutO 92 = true) (hsz : tySize c 5 = 1) (hro : c.ro 92 = false)
    (hr : ∀ fn rsh s, c.fn 92 = some fn → rshOf c 92 fn = some rsh → fitsRes rsh (.str s) = true) : FunOk c 92 textF := by
  have hF : ∀ args objs v objs', textF args objs = some (v, objs') → ∃ xs, args = [.ref 0 0] ∧ objs = [.cells [.opt 0 0, .lst 5 true xs]] ∧ v = .str (bytesOf xs) ∧ objs' = [.cells [.opt 0 0, .lst 5 false xs]] ∧
      xs.all byteV = true ∧ xs.length < 1099511627776 := by
    intro args objs v objs' h
    unfold textF at h
    split at h
    · split at h
      · rename_i hx
        simp only [Bool.and_eq_true, decide_eq_true_eq] at hx
        cases h
        exact ⟨_, rfl, rfl, rfl, rfl, hx⟩
      · cases h
    · cases h
  refine ⟨fun args objs v objs' hq h => ?_, fun fn rsh hfn hrsh args objs v objs' h w G μ cargs hlen hinv => ?_⟩
  · obtain ⟨xs, _, rfl, _⟩ := hF _ _ _ _ h
    rcases hq with hq | ⟨_, hq⟩
    · rw [hro] at hq; cases hq
    · cases hq
  · obtain ⟨xs, rfl, rfl, rfl, rfl, hby, hbig⟩ := hF _ _ _ _ h
    refine ⟨hr fn rsh _ hfn hrsh, ?_, ?_⟩
    · simp [Cfg.osh, hcut, OSh.of, OSh.soft, fitsObs, OSh.fits, CSh.of, CSh.soft, fitsCells, CSh.fits]
    · have hol := hinv.olen
      obtain ⟨b, rfl⟩ : ∃ b, μ = [b] := by
        match μ, hol with
        | [b], _ => exact ⟨b, rfl⟩
      have hsim := Sim.begin_ hinv
      obtain ⟨x, rfl⟩ : ∃ x, cargs = [x] := by
        match cargs, hlen with
        | [x], _ => exact ⟨x, rfl⟩
      obtain ⟨b', hb', rfl⟩ := ref_of (hinv.rep 0 _ _ rfl rfl) rfl
      simp at hb'
      subst hb'
      obtain ⟨l, elem, fr, h1, h2, h3, h4, h5, h6⟩ := hinv.obs 0 _ _ rfl rfl
      match l, h3 with
      | [x0, x1], _ =>
        obtain ⟨a, cap, lo, rfl, hl, hrr, hf, hs, hz, hcap, ha, hrow⟩ := lst_of (h5 1 _ x1 rfl rfl) rfl
        have hc1 : w.cell? ⟨b, 1, none⟩ = some (.slice a xs.length cap) := by simp [World.cell?, h1]
        have hcat : cellsAt w b = [x0, .slice a xs.length cap] := by unfold cellsAt; rw [h1]
        have hcutS : Sim c (entry w G [b] [.ref 0 0] [.pointer (some ⟨b, 0, none⟩)] [.cells [.opt 0 0, .lst 5 true xs]]) w G [b] [.ref 0 0] [.pointer (some ⟨b, 0, none⟩)] [.cells [.opt 0 0, .lst 5 false xs]] := by
          have := hsim.reob (i := 0) (b := b) (o := .cells [.opt 0 0, .lst 5 true xs]) (o' := .cells [.opt 0 0, .lst 5 false xs]) (w' := w)
            (env' := [.ref 0 0]) (tmps' := [.pointer (some ⟨b, 0, none⟩)]) rfl rfl (fun _ _ => rfl) rfl rfl rfl rfl (by simp) hinv.rep ?_ (fun q => ?_) (fun l hl => ?_)
          · exact this
          · refine ⟨[x0, .slice a xs.length cap], elem, fr, h1, h2, rfl, h4, fun i v y hv hy => ?_, h6⟩
            match i, hv, hy with
            | 0, hv, hy => simp at hv hy; subst hv; subst hy; exact h5 0 _ _ rfl rfl
            | 1, hv, hy => simp at hv hy; subst hv; subst hy; exact (h5 1 _ _ rfl rfl).cut1
          · have : leafOb w (.cells [.opt 0 0, .lst 5 false xs]) b = [] := by simp [leafOb, hcat, zipF, leaf1]
            rw [this]; simp [cnt]
          · have : leafOb w (.cells [.opt 0 0, .lst 5 false xs]) b = [] := by simp [leafOb, hcat, zipF, leaf1]
            rw [this] at hl
            rcases hl with hl | hl
            · exact .inl hl
            · cases hl
        have fin : ∀ w' G' s, Sim c (entry w G [b] [.ref 0 0] [.pointer (some ⟨b, 0, none⟩)] [.cells [.opt 0 0, .lst 5 true xs]]) w' G' [b] [.ref 0 0] [.pointer (some ⟨b, 0, none⟩)] [.cells [.opt 0 0, .lst 5 false xs]] →
            Sim c (entry w G [b] [.ref 0 0] [.pointer (some ⟨b, 0, none⟩)] [.cells [.opt 0 0, .lst 5 true xs]]) w' G' [b] [.str s] [.string ⟨s.toArray⟩] [.cells [.opt 0 0, .lst 5 false xs]] := fun w' G' s hs =>
          (hs.push (v := .str s) (x := .string ⟨s.toArray⟩) (.str s) rfl).firsts (fr := [.str s]) (cfr := [.string ⟨s.toArray⟩]) rfl
        rw [hP]
        by_cases hx0 : xs = []
        · subst hx0
          refine (string_none b cap a w hc1 ha.2).mono ?_
          rintro e w' ⟨rfl, hw⟩
          have hd := hcutS.ext (WExt.of_drew hinv.none)
          rcases hw with rfl | ⟨o, rfl⟩
          · exact ⟨_, G, rfl, fin _ _ [] hd⟩
          · exact ⟨_, _, rfl, fin _ _ [] (hd.ext (WExt.of_alloc (w := w.drew) (G := G) hd.inv.none o 0))⟩
        · have hpos : 0 < xs.length := List.length_pos_iff.2 hx0
          cases ha0 : a with
          | none => have := ha.1 ha0; omega
          | some p =>
            subst ha0
            have hmem : (⟨5, p, xs.length, cap, none⟩ : Leaf) ∈ leafO w [.cells [.opt 0 0, .lst 5 true xs]] [b] := by
              have hcp : 0 < cap := by omega
              simp [leafO, hcat, zipF, leaf1, hcp]
            obtain ⟨g1, cs, el, fr', g2, g3, g4, g5, g6, g7⟩ := hinv.ok _ (List.mem_append_right _ hmem)
            simp only at g1 g2 g4 g6 g7
            subst g6
            obtain ⟨pb, po, ps⟩ := p
            simp only at g1 g2 g4 g7
            subst g1; subst g7
            obtain ⟨_, hrow⟩ := hrow _ rfl hx0
            have hxb := byteV_all hby
            have hlo : lo = (bytesOf xs).map (fun b => Value.int .u8 b.toNat) := by
              apply List.ext_getElem?
              intro i
              by_cases hi : i < xs.length
              · have e1 : xs[i]? = (ofBytes (bytesOf xs))[i]? := by rw [hxb]
                have hbl : (bytesOf xs).length = xs.length := by simp [bytesOf]
                simp only [ofBytes, List.getElem?_map] at e1
                rw [List.getElem?_eq_getElem (by omega : i < (bytesOf xs).length)] at e1
                have := int_of (hrr i _ lo[i] e1 (List.getElem?_eq_getElem (by omega))) rfl
                rw [List.getElem?_eq_getElem (by omega : i < lo.length), this, List.getElem?_map, List.getElem?_eq_getElem (by omega : i < (bytesOf xs).length)]
                rfl
              · have hbl : (bytesOf xs).length = xs.length := by simp [bytesOf]
                rw [List.getElem?_eq_none (by omega), List.getElem?_eq_none (by simp; omega)]
            have hbl : (bytesOf xs).length = xs.length := by simp [bytesOf]
            have hcell : ∀ j x, (bytesOf xs)[j]? = some x → w.cell? ⟨pb, j, none⟩ = some (.int .u8 x.toNat) := by
              intro j x hj
              have := (hrow j (.int .u8 x.toNat) (by rw [hlo, flat_ints, List.getElem?_map, hj]; rfl)).1
              simpa using this
            rw [hsz] at g4
            rw [← hbl] at hc1
            refine (string_some b pb cap cs.size (bytesOf xs) w (fun e => by rw [e] at hbl; simp at hbl; omega) hc1 (by omega) (by simp [World.shape?, g2]) (by omega) (by omega) hcell).mono ?_
            rintro e w' ⟨rfl, rfl⟩
            refine ⟨_, G, rfl, fin _ _ _ ?_⟩
            have hd := hcutS.ext (WExt.of_drew hinv.none)
            have hone := hinv.one pb
            have hcl : 0 < cnt pb (leafO w [.cells [.opt 0 0, .lst 5 true xs]] [b]) := cnt_pos.2 ⟨_, hmem, rfl⟩
            refine hd.regrind (g := pb) (fun _ => ?_) ?_ (fun k hk => ?_) (fun o => ?_) ?_ ?_ ?_ ?_
            · simp only [entry]; omega
            · have e0 : leafO w.drew [.cells [.opt 0 0, .lst 5 false xs]] [b] = [] := by
                have : cellsAt w.drew b = [x0, .slice (some ⟨pb, 0, none⟩) xs.length cap] := hcat
                simp [leafO, this, zipF, leaf1]
              rw [e0]
              have e1 : cnt pb (zipF leaf3 [V.ref 0 0] [Value.pointer (some ⟨b, 0, none⟩)]) = 0 := rfl
              rw [e1] at hone ⊢
              simp only [cnt_nil]
              omega
            · unfold World.freeze
              split
              · rfl
              · simp only [Array.getElem?_modify]; rw [if_neg (fun e => hk e.symm)]
            · unfold World.freeze
              split
              · rfl
              · simp only [World.cell?, Array.getElem?_modify]
                have g2' : w.drew.heap[pb]? = some (.cells cs 5 fr') := g2
                rw [g2']
                rfl
            · unfold World.freeze; split <;> simp
            · unfold World.freeze; split <;> rfl
            · unfold World.freeze; split <;> rfl
            · unfold World.freeze; split <;> rfl
end Go.Proofs.YtemgbdncidgoiaaDoor
end
section
namespace Go.Proofs.YtemgbdncidgoiaaDoor
open Go.RowKit Go.Shelf Go.Rg Go.Lib
theorem infoBy : (Tryd.prog.info? 5).map (fun i => (i.zero, i.size, i.bytes)) = some (some (.int .u8 0), 1, 1) := by kernel_rfl
set_option maxRecDepth 100000 in
set_option maxHeartbeats 2000000 in
theorem clone_c (ad : Addr) (n c : Nat) (news : List Value) (w : World) (hl : news.length = n) (hn : n ≤ maxLen) (hbig : n ≤ 140737488355328)
    (hc : ∀ j u, news[j]? = some u → w.cell? (ad.add j) = some u) (h1 : ∀ u ∈ news, u.oneCell' = true) :
    Calls Tryd.prog 54 #[.slice (some ad) n c] w fun e w' => ∃ v', e = .returned v' ∧ w'.ownsRow w.heap.size 5 1 v' n news ∧ Below w.heap.size w w' := by
  obtain ⟨i0, hi, hz0, hz1, hz2⟩ := info_parts infoBy
  have q22 : ∀ (w : World) (a : Option Addr) (n c n' c' : Nat), (binOp .eql 32 (.slice a n c) (.slice none n' c')).run Tryd.prog w = .ok (.bool a.isNone) w := fun w a n c n' c' => Lib.run_eql_slice_nil w _ _ a n c n' c' Tryd.underlying32
  have A : Aside (∀ j u, news[j]? = some u → w.cell? (ad.add j) = some u) := hc
  clear hc
  go_enter Tryd.func54, Tryd.ntmps54
  go_wp2_with (at_builtin; refine wpList_append_own _ rfl _ _ 32 rfl w.heap.size 5 i0 (.int .u8 0) 1 1 Tryd.underlying32 hi hz0 hz1 hz2 rfl (by decide) _ _ _ rfl (World.ownsRow_made w #[] 0 (Nat.le_refl _) (Nat.zero_le _) (by simp)) ad n c news rfl ?qc1 ?qc2 ?qc3 ?qc4 ?qc5 ?qc6 ?_)
  case qc1 => rw [Nat.mul_one]; exact hl
  case qc2 =>
    intro j u hj
    exact Lib.cell?_alloc_some _ (A.out j u hj)
  case qc3 => exact h1
  case qc4 => rw [Nat.zero_add]; exact hn
  case qc5 => rw [Nat.zero_add, Nat.mul_one]; exact hbig
  case qc6 => simp
  intro v' w1 hown hgrow hnil
  go_wp2
  go_ret
  refine ⟨v', rfl, by simpa using hown, ?_⟩
  exact ((Below.refl _ w).alloc (Nat.le_refl _) _).grown hgrow (by simp) (by intro k hk; simp [Value.ownBlock] at hk; omega)
set_option maxHeartbeats 1000000 in
theorem clone_nil (n c : Nat) (w : World) : Calls Tryd.prog 54 #[.slice none n c] w fun e w' => e = .returned (.slice none 0 0) ∧ w' = w := by
  have q22 : ∀ (w : World) (a : Option Addr) (n c n' c' : Nat), (binOp .eql 32 (.slice a n c) (.slice none n' c')).run Tryd.prog w = .ok (.bool a.isNone) w := fun w a n c n' c' => Lib.run_eql_slice_nil w _ _ a n c n' c' Tryd.underlying32
  go_enter Tryd.func54, Tryd.ntmps54
  go_wp2
  go_ret
  exact ⟨rfl, rfl⟩
end Go.Proofs.YtemgbdncidgoiaaDoor
end
section
namespace Go.Proofs.YtemgbdncidgoiaaDoor
open Go.ChangeShapes Go.WideShapes Go.ChangeAt Go.RowKit Go.Ev
theorem own : ownKnob Tryd.prog.godebug = none := by kernel_rfl
def litCells : DataW Unit → List Value
  | .lit (.int k n) => [.int k n]
  | _ => []
def rowCells : DataW Unit → List Value
  | .agg ps => ps.flatMap litCells
  | d => litCells d
def tabCells : DataW Unit → List Value
  | .agg ps => ps.flatMap rowCells
  | d => litCells d
def layCells (cs : List Value) : Obj → Obj
  | .cells _ t frozen => .cells cs.toArray t frozen
  | o => o
noncomputable def laidWorld (os : Os) : World :=
  { World.holding Tryd.prog os ⟨#[], #[], []⟩ with
    heap := ((World.holding Tryd.prog os ⟨#[], #[], []⟩).heap.modify 2 (layCells (tabCells Rows.laid_unicode_utf8_acceptRanges))).modify 1 (layCells (tabCells Rows.laid_unicode_utf8_first)) }
theorem funOk_of {c : Cfg} {f : FuncId} {F : Go.Ev.Fun}
    (h : ∀ args objs v objs', F args objs = some (v, objs') → objs = [] ∧ objs' = [] ∧ ∀ fn rsh, c.fn f = some fn → rshOf c f fn = some rsh → fitsRes rsh v = true ∧
      ∀ (w : World) (G : Gh) (cargs : List Value), (∀ b, w.heap.size ≤ b → G b = 0) → cargs.length = args.length → (∀ (i : Nat) v x, args[i]? = some v → cargs[i]? = some x → Rep c w G [] v x) →
        Calls c.P f cargs.toArray w fun e w' => ∃ u G', e = .returned u ∧ WExt w G w' G' ∧ Rep c w' G' [] v u ∧ leaf3 v u = []) : FunOk c f F := by
  refine ⟨fun args objs v objs' _ hF => ?_, fun fn rsh hfn hrsh args objs v objs' hF w G μ cargs hlen hinv => ?_⟩
  · obtain ⟨rfl, rfl, _⟩ := h args objs v objs' hF; rfl
  · obtain ⟨rfl, rfl, hh⟩ := h args objs v objs' hF
    obtain ⟨h1, h2⟩ := hh fn rsh hfn hrsh
    have hμ : μ = [] := List.eq_nil_of_length_eq_zero hinv.olen.symm
    subst hμ
    refine ⟨h1, by unfold Cfg.osh; split <;> rfl, (h2 w G cargs hinv.none hlen hinv.rep).mono ?_⟩
    rintro e w' ⟨u, G', rfl, hx, hr, hl⟩
    refine ⟨u, G', rfl, ?_⟩
    have hsim0 : Sim c (entry w G [] args cargs []) w G [] args cargs [] :=
      ⟨hinv, ⟨Nat.le_refl _, Seal.refl w G, fun _ _ _ => ⟨rfl, rfl⟩, rfl, rfl, rfl⟩, fun b _ h => h, [], by simp [entry]⟩
    exact ((hsim0.ext hx).push hr hl).firsts (fr := [v]) (cfr := [u]) rfl
def low8 (b : UInt8) : UInt8 := UInt8.ofNat (lowI b.toNat).toNat
def foldF : Go.Ev.Fun
  | [.str s], [] => if s.length < 4294967281 then some (.str (s.map low8), []) else none
  | _, _ => none
def idxF : Go.Ev.Fun
  | [.str s, .str [b]], [] => some (.int .i64 (Lib.indexByte s b), [])
  | _, _ => none
def cutK (b : UInt8) : Nat → List UInt8 → List (List UInt8)
  | 0, s => [s]
  | k + 1, s => if Lib.indexByte s b = -1 then [s] else s.take (Lib.indexByte s b).toNat :: cutK b k (s.drop ((Lib.indexByte s b).toNat + 1))
def splitF : Go.Ev.Fun
  | [.str s, .str [b], .int k n], [] => if k = .i64 ∧ 0 < n ∧ n < 1000 ∧ s.length < 4294967281 then some (.lst 9 false ((cutK b (min n.toNat (s.length + 1) - 1) s).map V.str), []) else none
  | _, _ => none
def lnV (x : Nat × Nat × Nat) : V := .agg [.int .i64 x.1, .int .i64 x.2.1, .int .i64 x.2.2]
def ofF : Go.Ev.Fun
  | [.lst 5 _ bs, .agg [.int .i64 fr, .int .i64 to]], [] => if bs.all byteV && decide (bs.length < 1099511627776) then some (.lst 104 false ((linesOf fr to (bytesOf bs)).map lnV), []) else none
  | _, _ => none
def ixbF : Go.Ev.Fun
  | [.str s, .int .u8 n], [] => if 0 ≤ n ∧ n < 256 then some (.int .i64 (Lib.indexByte s (UInt8.ofNat n.toNat)), []) else none
  | _, _ => none
def cloneF : Go.Ev.Fun
  | [.lst 5 _ bs], [] => if bs.all byteV && decide (bs.length < 1099511627776) then some (.lst 5 false bs, []) else none
  | _, _ => none
noncomputable def hand (f : FuncId) : Option Go.Ev.Fun :=
  if f = 65 then some foldF else if f = 115 then some splitF else if f = 113 then some idxF else
  if f = 55 then some ofF else if f = 79 then some ixbF else
  if f = 54 then some cloneF else
  if f = 108 then some checkF else if f = 92 then some textF else none
def ro (f : FuncId) : Bool := [99, 100].contains f
def pur (f : FuncId) : Bool := [3,4,5,6,7,8,9,10,11,12,13,14,15,16,17,18,19,20,21,22,23,24,25,26,27,28,29,30,32,33,36,37,38,39,41,46,50,51,52,53,54,55,56,57,58,59,60,61,62,63,64,65,66,69,70,71,72,73,77,78,79,84,85,86,87,90,97,98,101,103,104,105,106,107,110,111,113,114,115,116].contains f
def rshc (f : FuncId) : Option (List RSh) := if f = 91 then some [⟨false, [.int .i64]⟩, ⟨false, [.nili]⟩] else none
def bldc (t : TypeId) : Bool := t == 152
def cutc (f : FuncId) : Bool := f == 92
def ownc (t : TypeId) : Bool := t == 109
noncomputable def cfg : Cfg := cfgOf hand (fun _ _ => false) (fun _ => false) ro pur rshc bldc cutc ownc
theorem ro_code (f : FuncId) (x : Func) (h0 : fnT f = some x) (h1 : (match x.body with | some b => roCode cfg b | none => true) = true) : ∀ y, fnT f = some y → ∀ b, y.body = some b → roCode cfg b = true := by
  intro y hy b hb
  rw [h0] at hy; cases hy
  rw [hb] at h1; exact h1
theorem cfg_ok : CfgOk cfg := cfgOk _ _ _ _ _ _ _ _ _ (by
  intro f x hf hx b hb
  have hf' : f ∈ [99, 100] := by simpa [ro] using hf
  simp only [List.mem_cons, List.not_mem_nil, or_false] at hf'
  rcases hf' with rfl | rfl
  · exact ro_code _ Tryd.f99 (by kernel_rfl) (by kernel_rfl) x hx b hb
  · exact ro_code _ Tryd.f100 (by kernel_rfl) (by kernel_rfl) x hx b hb)
theorem str_at {c : Cfg} {w : World} {G : Gh} {args : List V} {cargs : List Value} (hr : ∀ (i : Nat) v x, args[i]? = some v → cargs[i]? = some x → Rep c w G [] v x) (hl : cargs.length = args.length) {i : Nat} {s : List UInt8}
    (h : args[i]? = some (.str s)) : cargs[i]? = some (.string ⟨s.toArray⟩) := by
  have hi := (List.getElem?_eq_some_iff.1 h).1
  have hx := List.getElem?_eq_getElem (l := cargs) (i := i) (by omega)
  rw [hx, str_of (hr i _ _ h hx) rfl]
theorem int_at {c : Cfg} {w : World} {G : Gh} {args : List V} {cargs : List Value} (hr : ∀ (i : Nat) v x, args[i]? = some v → cargs[i]? = some x → Rep c w G [] v x) (hl : cargs.length = args.length) {i : Nat} {k : IntKind} {n : Int}
    (h : args[i]? = some (.int k n)) : cargs[i]? = some (.int k n) := by
  have hi := (List.getElem?_eq_some_iff.1 h).1
  have hx := List.getElem?_eq_getElem (l := cargs) (i := i) (by omega)
  rw [hx, int_of (hr i _ _ h hx) rfl]
theorem fold_ok : FunOk cfg 65 foldF := by
  refine funOk_of fun args objs v objs' hF => ?_
  unfold foldF at hF
  split at hF
  · rename_i s
    split at hF
    · rename_i hs
      cases hF
      refine ⟨rfl, rfl, fun fn rsh hfn hrsh => ?_⟩
      have h1 : cfg.fn 65 = some Tryd.f65 := by kernel_rfl
      have h2 : rshOf cfg 65 Tryd.f65 = some [⟨false, [.str]⟩] := by kernel_rfl
      rw [h1] at hfn; cases hfn
      rw [h2] at hrsh; cases hrsh
      refine ⟨rfl, fun w G cargs hn hl hr => ?_⟩
      have e0 := str_at hr hl (i := 0) rfl
      match cargs, hl, e0 with
      | [x], _, e0 =>
        simp at e0; subst e0
        have := fold_c ⟨s.toArray⟩ w (by simpa [ByteArray.size] using hs)
        refine this.mono ?_
        rintro e w' ⟨rfl, hf⟩
        refine ⟨_, G, rfl, ⟨by have := hf.size; omega, fun b hb => ⟨hf.old b hb, rfl⟩, fun b hb => hn b (by have := hf.size; omega), hf.os, hf.out, hf.tape⟩, ?_, rfl⟩
        exact .str _
    · cases hF
  · cases hF
theorem idx_ok : FunOk cfg 113 idxF := by
  refine funOk_of fun args objs v objs' hF => ?_
  unfold idxF at hF
  split at hF
  · rename_i s b
    cases hF
    · refine ⟨rfl, rfl, fun fn rsh hfn hrsh => ?_⟩
      have h1 : cfg.fn 113 = some Tryd.f113 := by kernel_rfl
      have h2 : rshOf cfg 113 Tryd.f113 = some [⟨false, [.int .i64]⟩] := by kernel_rfl
      rw [h1] at hfn; cases hfn
      rw [h2] at hrsh; cases hrsh
      refine ⟨rfl, fun w G cargs hn hl hr => ?_⟩
      have e0 := str_at hr hl (i := 0) rfl
      have e1 := str_at hr hl (i := 1) rfl
      match cargs, hl, e0, e1 with
      | [x, y], _, e0, e1 =>
        simp at e0 e1; subst e0; subst e1
        refine (index_c ⟨s.toArray⟩ b w).mono ?_
        rintro e w' ⟨rfl, rfl⟩
        exact ⟨_, G, rfl, ⟨Nat.le_refl _, fun b hb => ⟨rfl, rfl⟩, hn, rfl, rfl, rfl⟩, .int _ _, rfl⟩
  · cases hF
theorem cutK_split (b : UInt8) : ∀ (k : Nat) (s : List UInt8), Lib.splitK [b] 0 k s = cutK b k s
  | 0, s => rfl
  | k + 1, s => by
    simp only [Lib.splitK, cutK, index_byte, cutK_split b k, Nat.add_zero, List.length_singleton]
    by_cases h : Lib.indexByte s b = -1
    · simp [h]
    · simp [h]
theorem split_ok : FunOk cfg 115 splitF := by
  refine funOk_of fun args objs v objs' hF => ?_
  unfold splitF at hF
  split at hF
  · rename_i s b k n
    split at hF
    · rename_i hk
      obtain ⟨rfl, hn0, hn1, hs⟩ := hk
      cases hF
      refine ⟨rfl, rfl, fun fn rsh hfn hrsh => ?_⟩
      have h1 : cfg.fn 115 = some Tryd.f115 := by kernel_rfl
      have h2 : rshOf cfg 115 Tryd.f115 = some [⟨false, [.lst 9 false]⟩] := by kernel_rfl
      rw [h1] at hfn; cases hfn
      rw [h2] at hrsh; cases hrsh
      refine ⟨rfl, fun w G cargs hn hl hr => ?_⟩
      have e0 := str_at hr hl (i := 0) rfl
      have e1 := str_at hr hl (i := 1) rfl
      have e2 := int_at hr hl (i := 2) rfl
      match cargs, hl, e0, e1, e2 with
      | [x, y, z], _, e0, e1, e2 =>
        simp at e0 e1 e2; subst e0; subst e1; subst e2
        have hsz : (⟨s.toArray⟩ : ByteArray).size = s.length := by simp [ByteArray.size]
        generalize hN : min n.toNat (s.length + 1) = N
        have := splitN_c ⟨s.toArray⟩ b n N w (by rw [hsz]; exact hs) hn0 (by omega) (by rw [hsz]; omega)
        refine this.mono ?_
        rintro e w' ⟨rfl, rfl⟩
        generalize hps : Lib.splitB ⟨#[b]⟩ 0 (N - 1) ⟨s.toArray⟩ = ps
        have hdata : ps.map (fun p => p.data.toList) = cutK b (N - 1) s := by
          rw [← hps, Lib.splitB_data, ← cutK_split]
        have hle : ps.length ≤ N := by
          rw [← hps]
          have := Lib.splitB_length_le ⟨#[b]⟩ 0 (N - 1) ⟨s.toArray⟩
          omega
        have hsz9 : tySize cfg 9 = 1 := by kernel_rfl
        have hx : WExt w G (w.alloc (.cells (Lib.cellsOf ps N) 9)) (fun k => if k = w.heap.size then ps.length else G k) := by
          refine ⟨by simp, fun b hb => ⟨?_, by simp [Nat.ne_of_lt hb]⟩, fun b hb => ?_, rfl, rfl, rfl⟩
          · show (w.heap.push _)[b]? = _
            rw [Array.getElem?_push_lt hb, Array.getElem?_eq_getElem hb]
          · have hb' : w.heap.size + 1 ≤ b := by simpa using hb
            have : b ≠ w.heap.size := by omega
            simp [this, hn b (by omega)]
        refine ⟨_, _, rfl, hx, ?_, rfl⟩
        have hvs : (cutK b (N - 1) s).map V.str = ps.map fun p => V.str p.data.toList := by rw [← hdata, List.map_map]; rfl
        rw [hvs]
        have hlen : ps.length = (ps.map fun p => V.str p.data.toList).length := by simp
        have hfl : flat (ps.map Value.string) = ps.map Value.string := by
          clear hvs hlen hx hle hdata hps
          induction ps with
          | nil => rfl
          | cons p ps ih => simp only [flat, List.map_cons, List.flatMap_cons, Value.cells] at ih ⊢; rw [ih]; rfl
        rw [hlen]
        refine .lst 9 false _ _ N (ps.map Value.string) (by simp) (fun i v x hv hx => ?_) (fun v hv => ?_) (fun x hx => ?_) (by rw [hsz9]; omega) (by simpa using hle) ⟨fun h => (by cases h), fun p hp => (by cases hp; simp)⟩ (fun p hp _ => ?_)
        · obtain ⟨p, h1, rfl⟩ := get_map hv
          obtain ⟨p', h2, rfl⟩ := get_map hx
          rw [h1] at h2; cases h2
          exact .str _
        · obtain ⟨p, _, rfl⟩ := List.mem_map.1 hv
          have h9 : cfg.ty 9 = tyT 9 := rfl
          have : ∀ q : List UInt8, fitsE cfg 9 (.str q) = true := by intro q; kernel_rfl
          exact this _
        · obtain ⟨p, _, rfl⟩ := List.mem_map.1 hx
          rw [hsz9]; rfl
        · cases hp
          refine ⟨rfl, fun j x hj => ?_⟩
          rw [hfl] at hj
          have hjl : j < ps.length := by have := (List.getElem?_eq_some_iff.1 hj).1; simpa using this
          refine ⟨?_, by simp; omega⟩
          have hnew : (w.alloc (.cells (Lib.cellsOf ps N) 9)).heap[w.heap.size]? = some (.cells (Lib.cellsOf ps N) 9) := by show (w.heap.push _)[w.heap.size]? = _; simp
          simp only [World.cell?, hnew, Nat.zero_add]
          have : (Lib.cellsOf ps N)[j]? = some x := by
            unfold Lib.cellsOf
            rw [List.getElem?_toArray, List.getElem?_append_left (by simpa using hjl)]
            exact hj
          simpa using this
    · cases hF
  · cases hF
theorem ixb_ok : FunOk cfg 79 ixbF := by
  refine funOk_of fun args objs v objs' hF => ?_
  unfold ixbF at hF
  split at hF
  · rename_i s n
    split at hF
    · rename_i hn'
      cases hF
      refine ⟨rfl, rfl, fun fn rsh hfn hrsh => ?_⟩
      have h1 : cfg.fn 79 = some Tryd.f79 := by kernel_rfl
      have h2 : rshOf cfg 79 Tryd.f79 = some [⟨false, [.int .i64]⟩] := by kernel_rfl
      rw [h1] at hfn; cases hfn
      rw [h2] at hrsh; cases hrsh
      refine ⟨rfl, fun w G cargs hn hl hr => ?_⟩
      have e0 := str_at hr hl (i := 0) rfl
      have e1 := int_at hr hl (i := 1) rfl
      match cargs, hl, e0, e1 with
      | [x, y], _, e0, e1 =>
        simp at e0 e1; subst e0; subst e1
        refine (sIndexByte_c ⟨s.toArray⟩ n w).mono ?_
        rintro e w' ⟨rfl, rfl⟩
        exact ⟨_, G, rfl, ⟨Nat.le_refl _, fun b hb => ⟨rfl, rfl⟩, hn, rfl, rfl, rfl⟩, .int _ _, rfl⟩
    · cases hF
  · cases hF
theorem of_ok : FunOk cfg 55 ofF := by
  refine funOk_of fun args objs v objs' hF => ?_
  unfold ofF at hF
  split at hF
  · rename_i tp bs fr to
    split at hF
    · rename_i hb
      simp only [Bool.and_eq_true, decide_eq_true_eq] at hb
      obtain ⟨hby, hlen⟩ := hb
      cases hF
      refine ⟨rfl, rfl, fun fn rsh hfn hrsh => ?_⟩
      have h1 : cfg.fn 55 = some Tryd.f55 := by kernel_rfl
      have h2 : rshOf cfg 55 Tryd.f55 = some [⟨false, [.lst 104 false]⟩] := by kernel_rfl
      rw [h1] at hfn; cases hfn
      rw [h2] at hrsh; cases hrsh
      refine ⟨rfl, fun w G cargs hn hl hr => ?_⟩
      match cargs, hl with
      | [x, y], _ =>
        obtain ⟨a, cap, lo, rfl, hlo, hrr, hf, hs, hz, hcap, ha, hrow⟩ := lst_of (hr 0 _ x rfl rfl) rfl
        have hy : y = .agg #[.int .i64 fr, .int .i64 to] := by
          have := hr 1 _ y rfl rfl
          cases this with
          | agg _ l hl hs hr2 =>
            match l, hl with
            | [p, q], _ =>
              have e1 := int_of (hr2 0 _ p rfl rfl) rfl
              have e2 := int_of (hr2 1 _ q rfl rfl) rfl
              subst e1; subst e2; rfl
        subst hy
        have hxb := byteV_all hby
        have hbl : (bytesOf bs).length = bs.length := by simp [bytesOf]
        have hlo' : lo = (bytesOf bs).map (fun b => Value.int .u8 b.toNat) := by
          apply List.ext_getElem?
          intro i
          by_cases hi : i < bs.length
          · have e1 : bs[i]? = (ofBytes (bytesOf bs))[i]? := by rw [hxb]
            simp only [ofBytes, List.getElem?_map] at e1
            rw [List.getElem?_eq_getElem (by omega : i < (bytesOf bs).length)] at e1
            have := int_of (hrr i _ lo[i] e1 (List.getElem?_eq_getElem (by omega))) rfl
            rw [List.getElem?_eq_getElem (by omega : i < lo.length), this, List.getElem?_map, List.getElem?_eq_getElem (by omega : i < (bytesOf bs).length)]
            rfl
          · rw [List.getElem?_eq_none (by omega), List.getElem?_eq_none (by simp; omega)]
        have hcall := of_c a cap (bytesOf bs) fr to w (by omega) ha.1 (by omega) (fun p hp hne => by
          obtain ⟨g1, g2⟩ := hrow p hp (fun e => hne (by rw [e]; rfl))
          refine ⟨g1, fun j x hj => ?_⟩
          exact (g2 j (.int .u8 x.toNat) (by rw [hlo', flat_ints, List.getElem?_map, hj]; rfl)).1)
        rw [hbl] at hcall
        refine hcall.mono ?_
        rintro e w' ⟨v, rfl, hown, hbel⟩
        have hsz : tySize cfg 104 = 3 := by kernel_rfl
        have hfit : ∀ p q r : Int, fitsE cfg 104 (.agg [.int .i64 p, .int .i64 q, .int .i64 r]) = true := by intro p q r; kernel_rfl
        have hmk : ∀ (w' : World) (G' : Gh) (xs : List (Nat × Nat × Nat)) (a' : Option Addr) (cap' : Nat), xs.length ≤ cap' → ((a' = none → cap' = 0) ∧ ∀ p, a' = some p → p.block < w'.heap.size) →
            (∀ p, a' = some p → xs ≠ [] → p.spot = none ∧ SRow w' G' p.block p.off (cellsLn xs)) → Rep cfg w' G' [] (.lst 104 false (xs.map lnV)) (.slice a' xs.length cap') := by
          intro w' G' xs a' cap' k1 k2 k3
          have hfl : flat (xs.map encLn) = cellsLn xs := by
            clear k1 k2 k3
            induction xs with
            | nil => rfl
            | cons x xs ih => simp only [flat, List.map_cons, List.flatMap_cons, cellsLn] at ih ⊢; rw [ih]; rfl
          have hlen' : xs.length = (xs.map lnV).length := by simp
          rw [hlen']
          refine .lst 104 false _ a' cap' (xs.map encLn) (by simp) (fun i v x hv hx => ?_) (fun v hv => ?_) (fun x hx => ?_) (by rw [hsz]; omega) (by simpa using k1) k2 (fun p hp hne => ?_)
          · obtain ⟨p, q1, rfl⟩ := get_map hv
            obtain ⟨p', q2, rfl⟩ := get_map hx
            rw [q1] at q2; cases q2
            refine .agg _ [.int .i64 p.1, .int .i64 p.2.1, .int .i64 p.2.2] rfl (fun x hx => ?_) (fun i v x hv hx => ?_)
            · simp at hx; rcases hx with rfl | rfl | rfl <;> rfl
            · match i, hv, hx with
              | 0, hv, hx => simp at hv hx; subst hv; subst hx; exact .int _ _
              | 1, hv, hx => simp at hv hx; subst hv; subst hx; exact .int _ _
              | 2, hv, hx => simp at hv hx; subst hv; subst hx; exact .int _ _
          · obtain ⟨p, _, rfl⟩ := List.mem_map.1 hv
            exact hfit _ _ _
          · obtain ⟨p, _, rfl⟩ := List.mem_map.1 hx
            rw [hsz]; rfl
          · rw [hfl]
            exact k3 p hp (fun e => hne (by rw [e]; rfl))
        rcases hown.2 with ⟨rfl, h0⟩ | ⟨g, cap', cur, rfl, hbg, hgb, hnc, hcm, hcs, htake⟩
        · have hx0 := List.eq_nil_of_length_eq_zero h0
          refine ⟨_, G, rfl, ⟨hbel.size, fun b hb => ⟨hbel.block b hb, rfl⟩, fun b hb => hn b (Nat.le_trans hbel.size hb), hbel.os, hbel.output, hbel.tape⟩, ?_, rfl⟩
          have := hmk w' G (linesOf fr to (bytesOf bs)) none 0 (by omega) ⟨fun _ => rfl, fun p hp => by cases hp⟩ (fun p hp => by cases hp)
          rw [h0] at this
          exact this
        · have hglt : g < w'.heap.size := heap_lt hgb
          refine ⟨_, fun k => if k = g then (linesOf fr to (bytesOf bs)).length * 3 else G k, rfl, ⟨hbel.size, fun b hb => ⟨hbel.block b hb, ?_⟩, fun b hb => ?_, hbel.os, hbel.output, hbel.tape⟩, ?_, rfl⟩
          · have : b ≠ g := by omega
            simp [this]
          · have : b ≠ g := by omega
            simp [this, hn b (Nat.le_trans hbel.size hb)]
          · refine hmk w' _ _ _ cap' hnc ⟨fun h => (by cases h), fun p hp => (by cases hp; exact hglt)⟩ (fun p hp _ => ?_)
            cases hp
            refine ⟨rfl, fun j x hj => ⟨?_, ?_⟩⟩
            · have := hown.cells (g := g) rfl j x hj
              rw [Addr.add_lit] at this
              exact this
            · have hj' := (List.getElem?_eq_some_iff.1 hj).1
              have := hown.1
              simp only [if_true]
              omega
    · cases hF
  · cases hF
theorem clone_ok : FunOk cfg 54 cloneF := by
  refine funOk_of fun args objs v objs' hF => ?_
  unfold cloneF at hF
  split at hF
  · rename_i tp bs
    split at hF
    · rename_i hb
      simp only [Bool.and_eq_true, decide_eq_true_eq] at hb
      obtain ⟨hby, hlen⟩ := hb
      cases hF
      refine ⟨rfl, rfl, fun fn rsh hfn hrsh => ?_⟩
      have h1 : cfg.fn 54 = some Tryd.f54 := by kernel_rfl
      have h2 : rshOf cfg 54 Tryd.f54 = some [⟨false, [.lst 5 false]⟩] := by kernel_rfl
      rw [h1] at hfn; cases hfn
      rw [h2] at hrsh; cases hrsh
      refine ⟨rfl, fun w G cargs hn hl hr => ?_⟩
      match cargs, hl with
      | [x], _ =>
        obtain ⟨a, cap, lo, rfl, hlo, hrr, hf, hs, hz, hcap, ha, hrow⟩ := lst_of (hr 0 _ x rfl rfl) rfl
        have hxb := byteV_all hby
        have hbl : (bytesOf bs).length = bs.length := by simp [bytesOf]
        have hlo' : lo = (bytesOf bs).map (fun b => Value.int .u8 b.toNat) := by
          apply List.ext_getElem?
          intro i
          by_cases hi : i < bs.length
          · have e1 : bs[i]? = (ofBytes (bytesOf bs))[i]? := by rw [hxb]
            simp only [ofBytes, List.getElem?_map] at e1
            rw [List.getElem?_eq_getElem (by omega : i < (bytesOf bs).length)] at e1
            have := int_of (hrr i _ lo[i] e1 (List.getElem?_eq_getElem (by omega))) rfl
            rw [List.getElem?_eq_getElem (by omega : i < lo.length), this, List.getElem?_map, List.getElem?_eq_getElem (by omega : i < (bytesOf bs).length)]
            rfl
          · rw [List.getElem?_eq_none (by omega), List.getElem?_eq_none (by simp; omega)]
        have hfl : flat lo = lo := by rw [hlo', flat_ints]
        have hsz : tySize cfg 5 = 1 := by kernel_rfl
        have hmk : ∀ (w' : World) (G' : Gh) (a' : Option Addr) (cap' : Nat), bs.length ≤ cap' → ((a' = none → cap' = 0) ∧ ∀ p, a' = some p → p.block < w'.heap.size) →
            (∀ p, a' = some p → bs ≠ [] → p.spot = none ∧ SRow w' G' p.block p.off lo) → Rep cfg w' G' [] (.lst 5 false bs) (.slice a' bs.length cap') := by
          intro w' G' a' cap' k1 k2 k3
          refine .lst 5 false bs a' cap' lo hlo (fun i v x hv hx => ?_) hf hs hz k1 k2 (fun p hp hne => ?_)
          · rw [← hxb] at hv
            rw [hlo'] at hx
            obtain ⟨p, q1, rfl⟩ := get_map hv
            obtain ⟨p', q2, rfl⟩ := get_map hx
            rw [q1] at q2; cases q2
            exact .int _ _
          · rw [hfl]; exact k3 p hp hne
        cases a with
        | none =>
          have hcap0 := ha.1 rfl
          have hb0 : bs = [] := List.eq_nil_of_length_eq_zero (by omega)
          refine (clone_nil bs.length cap w).mono ?_
          rintro e w' ⟨rfl, rfl⟩
          refine ⟨_, G, rfl, ⟨Nat.le_refl _, fun b hb => ⟨rfl, rfl⟩, hn, rfl, rfl, rfl⟩, ?_, rfl⟩
          have := hmk w' G none 0 (by rw [hb0]; simp) ⟨fun _ => rfl, fun p hp => by cases hp⟩ (fun p hp => by cases hp)
          have hz0 : bs.length = 0 := by rw [hb0]; rfl
          rw [hz0] at this
          exact this
        | some p =>
          have hcell : ∀ j u, lo[j]? = some u → w.cell? (p.add j) = some u := fun j u hj => by
            have hjl := (List.getElem?_eq_some_iff.1 hj).1
            have hbne : bs ≠ [] := fun e => by
              have h0 : lo.length = 0 := by rw [hlo, e]; rfl
              omega
            obtain ⟨g1, g2⟩ := hrow p rfl hbne
            obtain ⟨pb, po, ps⟩ := p
            simp only at g1
            subst g1
            rw [Addr.add_lit]
            exact (g2 j u (by rw [hfl]; exact hj)).1
          have hone : ∀ u ∈ lo, u.oneCell' = true := fun u hu => by
            rw [hlo'] at hu
            obtain ⟨c, _, rfl⟩ := List.mem_map.1 hu
            rfl
          refine (clone_c p bs.length cap lo w hlo (by unfold maxLen; omega) (by omega) hcell hone).mono ?_
          rintro e w' ⟨v, rfl, hown, hbel⟩
          rcases hown.2 with ⟨rfl, h0⟩ | ⟨g, cap', cur, rfl, hbg, hgb, hnc, hcm, hcs, htake⟩
          · refine ⟨_, G, rfl, ⟨hbel.size, fun b hb => ⟨hbel.block b hb, rfl⟩, fun b hb => hn b (Nat.le_trans hbel.size hb), hbel.os, hbel.output, hbel.tape⟩, ?_, rfl⟩
            have := hmk w' G none 0 (by omega) ⟨fun _ => rfl, fun p hp => by cases hp⟩ (fun p hp => by cases hp)
            rw [h0] at this
            exact this
          · have hglt : g < w'.heap.size := heap_lt hgb
            refine ⟨_, fun k => if k = g then bs.length * 1 else G k, rfl, ⟨hbel.size, fun b hb => ⟨hbel.block b hb, ?_⟩, fun b hb => ?_, hbel.os, hbel.output, hbel.tape⟩, ?_, rfl⟩
            · have : b ≠ g := by omega
              simp [this]
            · have : b ≠ g := by omega
              simp [this, hn b (Nat.le_trans hbel.size hb)]
            · refine hmk w' _ _ cap' hnc ⟨fun h => (by cases h), fun p hp => (by cases hp; exact hglt)⟩ (fun p hp _ => ?_)
              cases hp
              refine ⟨rfl, fun j x hj => ⟨?_, ?_⟩⟩
              · have := hown.cells (g := g) rfl j x hj
                rw [Addr.add_lit] at this
                exact this
              · have hj' := (List.getElem?_eq_some_iff.1 hj).1
                have := hown.1
                simp only [if_true]
                omega
    · cases hF
  · cases hF
theorem hand_ok : ∀ f h, cfg.hand f = some h → FunOk cfg f h := by
  intro f h hf
  have hf : hand f = some h := hf
  unfold hand at hf
  split at hf
  · rename_i e; subst e; cases hf; exact fold_ok
  split at hf
  · rename_i e; subst e; cases hf; exact split_ok
  split at hf
  · rename_i e; subst e; cases hf; exact idx_ok
  split at hf
  · rename_i e; subst e; cases hf; exact of_ok
  split at hf
  · rename_i e; subst e; cases hf; exact ixb_ok
  split at hf
  · rename_i e; subst e; cases hf; exact clone_ok
  split at hf
  · rename_i e; subst e; cases hf
    refine check_ok rfl (fun t ht => by simpa [cfg, cfgOf, bldc] using ht) rfl (fun fn rsh hfn hrsh => ?_)
    have h1 : cfg.fn 108 = some Tryd.f108 := by kernel_rfl
    have h2 : rshOf cfg 108 Tryd.f108 = some [] := by kernel_rfl
    rw [h1] at hfn; cases hfn
    rw [h2] at hrsh; cases hrsh
    rfl
  split at hf
  · rename_i e; subst e; cases hf
    refine text_ok cfg_ok rfl rfl (by kernel_rfl) (by kernel_rfl) (fun fn rsh s hfn hrsh => ?_)
    have h1 : cfg.fn 92 = some Tryd.f92 := by kernel_rfl
    have h2 : rshOf cfg 92 Tryd.f92 = some [⟨false, [.str]⟩] := by kernel_rfl
    rw [h1] at hfn; cases hfn
    rw [h2] at hrsh; cases hrsh
    rfl
  cases hf
end Go.Proofs.YtemgbdncidgoiaaDoor
end
section
namespace Go.Proofs.YtemgbdncidgoiaaDoor
open Go.Ev Go
abbrev Bs := List UInt8
def Ret (f : FuncId) (args : List V) (objs : List Ob) (r : V × List Ob) : Prop := ∃ K, ∀ k, K ≤ k → callN cfg k f args objs = some r
def Evt {α : Type} (g : Nat → Nat → Option α) (r : α) : Prop := ∃ K, ∀ k n, K ≤ k → K ≤ n → g k n = some r
theorem ret_mk {f : FuncId} {args : List V} {objs : List Ob} {r : V × List Ob} {g : Nat → Nat → Option (V × List Ob)} (hc : ∀ k, callN cfg (k + 1) f args objs = g k k) (h : Evt g r) : Ret f args objs r := by
  obtain ⟨K, h⟩ := h
  refine ⟨K + 1, fun k hk => ?_⟩
  obtain ⟨j, rfl⟩ : ∃ j, k = j + 1 := ⟨k - 1, by omega⟩
  rw [hc]; exact h j j (by omega) (by omega)
theorem evt_step {α : Type} {g g' : Nat → Nat → Option α} {r : α} (hg : ∀ k n, g k (n + 1) = g' k n) (h : Evt g' r) : Evt g r := by
  obtain ⟨K, h⟩ := h
  refine ⟨K + 1, fun k n hk hn => ?_⟩
  obtain ⟨j, rfl⟩ : ∃ j, n = j + 1 := ⟨n - 1, by omega⟩
  rw [hg]; exact h k j (by omega) (by omega)
theorem evt_some {α : Type} (r : α) : Evt (fun _ _ => some r) r := ⟨0, fun _ _ _ _ => rfl⟩
theorem evt_bind {α : Type} {f : FuncId} {args : List V} {objs : List Ob} {p : V × List Ob} {F : Nat → Nat → V × List Ob → Option α} {r : α} (h : Ret f args objs p) (h2 : Evt (fun k n => F k n p) r) :
    Evt (fun k n => Option.bind (callN cfg k f args objs) (F k n)) r := by
  obtain ⟨K, h⟩ := h
  obtain ⟨K2, h2⟩ := h2
  refine ⟨K + K2, fun k n hk hn => ?_⟩
  show Option.bind (callN cfg k f args objs) (F k n) = some r
  rw [h k (by omega)]
  exact h2 k n (by omega) (by omega)
theorem ret_hand {f : FuncId} {args : List V} {objs : List Ob} {r : V × List Ob} {h : Go.Ev.Fun} (hh : cfg.hand f = some h) (e : h args objs = some r) : Ret f args objs r := by
  refine ⟨1, fun k hk => ?_⟩
  obtain ⟨j, rfl⟩ : ∃ j, k = j + 1 := ⟨k - 1, by omega⟩
  simp only [callN, hh]; exact e
noncomputable def FIN (f : FuncId) (fn : Func) (objs : List Ob) : St → Option (V × List Ob) := finV cfg fn (finish cfg fn f (List.map OSh.of objs))
noncomputable def RM (f : FuncId) (fn : Func) (objs : List Ob) (call : FuncId → Go.Ev.Fun) (icall : ICall (V × List Ob)) (again : List It → St → Option (V × List Ob)) (its : List It) (st : St) : Option (V × List Ob) :=
  runM cfg call icall (slotsOf fn.results.toList) (List.length objs) again (FIN f fn objs) depth its st
noncomputable def RN (f : FuncId) (fn : Func) (objs : List Ob) (call : FuncId → Go.Ev.Fun) (icall : ICall (V × List Ob)) (n : Nat) (its : List It) (st : St) : Option (V × List Ob) :=
  Go.Ev.runN cfg call icall (slotsOf fn.results.toList) (List.length objs) (FIN f fn objs) n its st
noncomputable def GO (f : FuncId) (fn : Func) (args : List V) (objs : List Ob) (call : FuncId → Go.Ev.Fun) (icall : ICall (V × List Ob)) (again : List It → St → Option (V × List Ob)) : Option (V × List Ob) :=
  envK args fn.ntmps fun env => RM f fn objs call icall again [.code (codeOf fn)] ⟨env, objs⟩
theorem chk_t {R : Type} (x : Option R) : chk true x = x := rfl
theorem chk_p {R : Type} {p : Prop} [Decidable p] (h : p) (x : Option R) : chk (decide p) x = x := by simp [chk, h]
theorem chk_b {R : Type} {b : Bool} (h : b = true) (x : Option R) : chk b x = x := by subst h; rfl
theorem bind_s {α β : Type} (a : α) (f : α → Option β) : Option.bind (some a) f = f a := rfl
theorem wrap64 {n : Int} (h1 : -9223372036854775808 ≤ n) (h2 : n < 9223372036854775808) : IntKind.wrap .i64 n = n := by
  rw [IntKind.wrap_i64]; omega
theorem wrapN (n : Nat) (h : n < 9223372036854775808) : IntKind.wrap .i64 (n : Int) = n := wrap64 (by omega) (by omega)
theorem wrap8 {n : Int} (h1 : 0 ≤ n) (h2 : n < 256) : IntKind.wrap .u8 n = n := by
  rw [IntKind.wrap_u8']; omega
theorem cat_ok {x y : Bs} (h : x.length + y.length ≤ 9223372036854775807) : catOk x y = true := by simp [catOk, h]
theorem app_ok {x y : List V} {n : Nat} (h : (x.length + y.length) * n ≤ 70368744177664) : appOk x y n = true := by simp [appOk, h]
theorem ofBytes_snoc (l : Bs) (c : UInt8) : ofBytes l ++ [.int .u8 (c.toNat : Int)] = ofBytes (l ++ [c]) := by simp [ofBytes]
theorem bytesOf_ofBytes (l : Bs) : bytesOf (ofBytes l) = l := by
  simp [bytesOf, ofBytes, V.getI, Function.comp_def]
theorem ofBytes_length (l : Bs) : (ofBytes l).length = l.length := by simp [ofBytes]
theorem getD_at {s : Bs} {i : Nat} (h : i < s.length) : s.getD i 0 = s[i] := by simp [List.getD, h]
theorem drop_at {s : Bs} {i : Nat} (h : i < s.length) : s.drop i = s[i] :: s.drop (i + 1) := List.drop_eq_getElem_cons h
end Go.Proofs.YtemgbdncidgoiaaDoor
end
section
namespace Go.Proofs.YtemgbdncidgoiaaDoor
open Go.Ev Go
open List (headD tail getD length drop take)
open V (getI getL getT getS getB)
set_option maxRecDepth 100000
variable (call : FuncId → Fun) (icall : ICall (V × List Ob)) (again : List It → St → Option (V × List Ob))
def T41_0 (call : FuncId → Fun) (ag0 : List UInt8 → List V → Int → Int → Option (V × List Ob)) (s0 : List UInt8) (l1 : List V) (i2 : Int) (i3 : Int) : Option (V × List Ob) :=
 if (decide (i3 < i2)) = true then
 chk (decide (0 ≤ i3)) (chk (decide (i3 < ((length l1 : Nat) : Int))) (Option.bind (call 62 [(V.str (getS (headD (V.cells (getD l1 (Int.toNat i3) V.bot)) V.bot))), (V.str s0)] []) fun z0 =>
 if (getB z0.1) = true then
 some ((V.tup [(V.str (getS (headD (tail (V.cells (getD l1 (Int.toNat i3) V.bot))) V.bot))), (V.bool true)]), [])
 else
 (ag0 (s0) (l1) (i2) ((IntKind.wrap .i64 (i3 + (1 : Int)))))))
 else
 some ((V.tup [(V.str []), (V.bool false)]), [])
def T41 (call : FuncId → Fun) (ag0 : List UInt8 → List V → Int → Int → Option (V × List Ob)) (a0 : List UInt8) (a1 : List UInt8) (a2 : List V) (a3 : List UInt8) : Option (V × List Ob) :=
 (ag0 (a3) (a2) (((length a2 : Nat) : Int)) ((0 : Int)))
def A41 (a0 : List UInt8) (a1 : List UInt8) (a2 : List V) (a3 : List UInt8) : List V := [V.agg [V.str a0, V.str a1, V.lst 116 false a2], V.str a3]
def K41_0 (s0 : List UInt8) (l1 : List V) (i2 : Int) (i3 : Int) : St := ⟨[V.bot, (V.str s0), V.bot, V.bot, V.bot, V.bot, V.bot, V.bot, V.bot, (V.lst 116 false l1), (V.int IntKind.i64 i2), (V.int IntKind.i64 i3)] ++ List.replicate 10 V.bot, []⟩
theorem S41_0 (s0 : List UInt8) (l1 : List V) (i2 : Int) (i3 : Int) :
 RM 41 Tryd.f41 [] call icall again (tdOf Tryd.f41 0) (K41_0 s0 l1 i2 i3) = T41_0 call (fun s0 l1 i2 i3 => again (tdOf Tryd.f41 0) (K41_0 s0 l1 i2 i3)) s0 l1 i2 i3 := by kernel_rfl
theorem E41 (a0 : List UInt8) (a1 : List UInt8) (a2 : List V) (a3 : List UInt8) : GO 41 Tryd.f41 (A41 a0 a1 a2 a3) [] call icall again = T41 call (fun s0 l1 i2 i3 => again (tdOf Tryd.f41 0) (K41_0 s0 l1 i2 i3)) a0 a1 a2 a3 := by kernel_rfl
def L41 (call : FuncId → Fun) : Nat → (List UInt8 → List V → Int → Int → Option (V × List Ob))
 | 0 => fun _ _ _ _ => none
 | n + 1 => T41_0 call (L41 call n)
theorem R41 (call : FuncId → Fun) (icall : ICall (V × List Ob)) : ∀ n, (∀ (s0 : List UInt8) (l1 : List V) (i2 : Int) (i3 : Int), RN 41 Tryd.f41 [] call icall n (tdOf Tryd.f41 0) (K41_0 s0 l1 i2 i3) = (L41 call n) s0 l1 i2 i3)
  | 0 => fun s0 l1 i2 i3 => rfl
  | n + 1 => by
    have ih := R41 call icall n
    exact fun s0 l1 i2 i3 => (S41_0 call icall (RN 41 Tryd.f41 [] call icall n) s0 l1 i2 i3).trans (by rw [show (fun s0 l1 i2 i3 => RN 41 Tryd.f41 [] call icall n (tdOf Tryd.f41 0) (K41_0 s0 l1 i2 i3)) = (L41 call n) from (funext fun s0 => funext fun l1 => funext fun i2 => funext fun i3 => ih s0 l1 i2 i3)]; rfl)
theorem C41 (k : Nat) (a0 : List UInt8) (a1 : List UInt8) (a2 : List V) (a3 : List UInt8) : callN cfg (k + 1) 41 (A41 a0 a1 a2 a3) [] = T41 (callN cfg k) (L41 (callN cfg k) k) a0 a1 a2 a3 := by
 have ih := R41 (callN cfg k) (icallN cfg (callN cfg k) 20) k
 refine (show callN cfg (k + 1) 41 (A41 a0 a1 a2 a3) [] = GO 41 Tryd.f41 (A41 a0 a1 a2 a3) [] (callN cfg k) (icallN cfg (callN cfg k) 20) (RN 41 Tryd.f41 [] (callN cfg k) (icallN cfg (callN cfg k) 20) k) by kernel_rfl).trans ((E41 _ _ _ a0 a1 a2 a3).trans ?_)
 rw [show (fun s0 l1 i2 i3 => RN 41 Tryd.f41 [] (callN cfg k) (icallN cfg (callN cfg k) 20) k (tdOf Tryd.f41 0) (K41_0 s0 l1 i2 i3)) = (L41 (callN cfg k) k) from (funext fun s0 => funext fun l1 => funext fun i2 => funext fun i3 => ih s0 l1 i2 i3)]
theorem M41 (a0 : List UInt8) (a1 : List UInt8) (a2 : List V) (a3 : List UInt8) {r : V × List Ob} (h : Evt (fun k n => T41 (callN cfg k) (L41 (callN cfg k) n) a0 a1 a2 a3) r) : Ret 41 [V.agg [V.str a0, V.str a1, V.lst 116 false a2], V.str a3] [] r := ret_mk (g := fun k n => T41 (callN cfg k) (L41 (callN cfg k) n) a0 a1 a2 a3) (fun k => C41 k a0 a1 a2 a3) h
theorem N41_0 (s0 : List UInt8) (l1 : List V) (i2 : Int) (i3 : Int) {r : V × List Ob} (h : Evt (fun k n => T41_0 (callN cfg k) (L41 (callN cfg k) n) s0 l1 i2 i3) r) : Evt (fun k n => (L41 (callN cfg k) n) s0 l1 i2 i3) r := evt_step (fun k n => rfl) h
def T60_0 (call : FuncId → Fun) (ag0 : List V → List V → Int → Int → List UInt8 → List UInt8 → List V → List UInt8 → List UInt8 → List UInt8 → List V → List (Sc × Sc) → Option (V × List Ob)) (l0 : List V) (l1 : List V) (i2 : Int) (i3 : Int) (s4 : List UInt8) (s5 : List UInt8) (l6 : List V) (s7 : List UInt8) (s8 : List UInt8) (s9 : List UInt8) (l10 : List V) (m11 : List (Sc × Sc)) : Option (V × List Ob) :=
 if (decide (i3 < i2)) = true then
 chk (decide (0 ≤ i3)) (chk (decide (i3 < ((length l1 : Nat) : Int))) (Option.bind (call 84 [(V.str (getS (headD (V.cells (getD l1 (Int.toNat i3) V.bot)) V.bot))), (V.str [42])] []) fun z0 =>
 Option.bind (if (sEq (getS (headD (getT z0.1) V.bot)) []) = false then
 some (Sc.getB (mget (Sc.str (getS (headD (getT z0.1) V.bot))) m11))
 else
 some true) fun y1 =>
 if y1 = true then
 (ag0 (l0) (l1) (i2) ((IntKind.wrap .i64 (i3 + (1 : Int)))) (s4) (s5) (l6) (s7) (s8) (s9) (l10) (m11))
 else
 Option.bind (call 85 [(V.lst 116 false l0), (V.str (getS (headD (getT z0.1) V.bot)))] []) fun z2 =>
 if (getB (headD (tail (getT z2.1)) V.bot)) = true then
 chk (appOk l10 [(V.agg [(V.str (getS (headD (getT z0.1) V.bot))), (V.str (getS (headD (getT z2.1) V.bot)))])] 33) ((ag0 (l0) (l1) (i2) ((IntKind.wrap .i64 (i3 + (1 : Int)))) (s4) (s5) (l6) (s7) (s8) (s9) ((l10 ++ [(V.agg [(V.str (getS (headD (getT z0.1) V.bot))), (V.str (getS (headD (getT z2.1) V.bot)))])])) ((mput (Sc.str (getS (headD (getT z0.1) V.bot))) (Sc.bool true) m11))))
 else
 (ag0 (l0) (l1) (i2) ((IntKind.wrap .i64 (i3 + (1 : Int)))) (s4) (s5) (l6) (s7) (s8) (s9) (l10) ((mput (Sc.str (getS (headD (getT z0.1) V.bot))) (Sc.bool true) m11)))))
 else
 some ((V.tup [(V.agg [(V.str s8), (V.str s9), (V.lst 116 false l10)]), (V.bool true)]), [])
def T60 (call : FuncId → Fun) (ag0 : List V → List V → Int → Int → List UInt8 → List UInt8 → List V → List UInt8 → List UInt8 → List UInt8 → List V → List (Sc × Sc) → Option (V × List Ob)) (a0 : List UInt8) (a1 : Bool) : Option (V × List Ob) :=
 Option.bind (call 80 [(V.agg [(V.ref 0 0)])] [(Ob.cells [(V.str a0)])]) fun z0 =>
 Option.bind (call 81 [(V.agg [(V.ref 0 0)])] [(Ob.cells [(V.str (getS (headD (Ob.getC (headD z0.2 Ob.dead)) V.bot)))])]) fun z1 =>
 Option.bind (call 65 [(V.str (getS z1.1))] []) fun z2 =>
 if (sEq (getS z2.1) []) = true then
 some ((V.tup [(V.agg [(V.str []), (V.str []), (V.lst 116 false [])]), (V.bool false)]), [])
 else
 if a1 = true then
 Option.bind (call 82 [(V.agg [(V.ref 0 0)]), (V.int .u8 47)] [(Ob.cells [(V.str (getS (headD (Ob.getC (headD z1.2 Ob.dead)) V.bot)))])]) fun z3 =>
 if (!(getB z3.1)) = true then
 some ((V.tup [(V.agg [(V.str []), (V.str []), (V.lst 116 false [])]), (V.bool false)]), [])
 else
 Option.bind (call 81 [(V.agg [(V.ref 0 0)])] [(Ob.cells [(V.str (getS (headD (Ob.getC (headD z3.2 Ob.dead)) V.bot)))])]) fun z4 =>
 Option.bind (call 65 [(V.str (getS z4.1))] []) fun z5 =>
 if (sEq (getS z5.1) []) = true then
 some ((V.tup [(V.agg [(V.str []), (V.str []), (V.lst 116 false [])]), (V.bool false)]), [])
 else
 Option.bind (call 83 [(V.agg [(V.ref 0 0)])] [(Ob.cells [(V.str (getS (headD (Ob.getC (headD z4.2 Ob.dead)) V.bot)))])]) fun z6 =>
 (ag0 ((getL z6.1)) ((getL z6.1)) (((length (getL z6.1) : Nat) : Int)) ((0 : Int)) ([]) ([]) ([]) ((getS (headD (Ob.getC (headD z6.2 Ob.dead)) V.bot))) ((getS z2.1)) ((getS z5.1)) ([]) ([]))
 else
 Option.bind (call 83 [(V.agg [(V.ref 0 0)])] [(Ob.cells [(V.str (getS (headD (Ob.getC (headD z1.2 Ob.dead)) V.bot)))])]) fun z3 =>
 (ag0 ((getL z3.1)) ((getL z3.1)) (((length (getL z3.1) : Nat) : Int)) ((0 : Int)) ([]) ([]) ([]) ((getS (headD (Ob.getC (headD z3.2 Ob.dead)) V.bot))) ((getS z2.1)) ([]) ([]) ([]))
def A60 (a0 : List UInt8) (a1 : Bool) : List V := [V.str a0, V.bool a1]
def K60_0 (l0 : List V) (l1 : List V) (i2 : Int) (i3 : Int) (s4 : List UInt8) (s5 : List UInt8) (l6 : List V) (s7 : List UInt8) (s8 : List UInt8) (s9 : List UInt8) (l10 : List V) (m11 : List (Sc × Sc)) : St := ⟨[V.bot, V.bot, V.bot, V.bot, (V.ref 0 0), V.bot, V.bot, (V.ref 3 0), (V.lst 116 false l0), (V.mref 4), V.bot, V.bot, V.bot, V.bot, V.bot, V.bot, V.bot, V.bot, V.bot, V.bot, V.bot, V.bot, V.bot, V.bot, V.bot, V.bot, V.bot, V.bot, V.bot, V.bot, V.bot, V.bot, V.bot, V.bot, V.bot, V.bot, V.bot, V.bot, V.bot, V.bot, V.bot, V.bot, V.bot, V.bot, V.bot, V.bot, V.bot, (V.lst 116 false l1), (V.int IntKind.i64 i2), (V.int IntKind.i64 i3)] ++ List.replicate 36 V.bot, [(Ob.cells [(V.str s4), (V.str s5), (V.lst 116 true l6)]), (Ob.cells [(V.str s7)]), (Ob.cells [(V.ref 1 0)]), (Ob.cells [(V.str s8), (V.str s9), (V.lst 116 true l10)]), (Ob.mp SK.str SK.bool m11)]⟩
theorem S60_0 (l0 : List V) (l1 : List V) (i2 : Int) (i3 : Int) (s4 : List UInt8) (s5 : List UInt8) (l6 : List V) (s7 : List UInt8) (s8 : List UInt8) (s9 : List UInt8) (l10 : List V) (m11 : List (Sc × Sc)) :
 RM 60 Tryd.f60 [] call icall again (tdOf Tryd.f60 0) (K60_0 l0 l1 i2 i3 s4 s5 l6 s7 s8 s9 l10 m11) = T60_0 call (fun l0 l1 i2 i3 s4 s5 l6 s7 s8 s9 l10 m11 => again (tdOf Tryd.f60 0) (K60_0 l0 l1 i2 i3 s4 s5 l6 s7 s8 s9 l10 m11)) l0 l1 i2 i3 s4 s5 l6 s7 s8 s9 l10 m11 := by kernel_rfl
theorem E60 (a0 : List UInt8) (a1 : Bool) : GO 60 Tryd.f60 (A60 a0 a1) [] call icall again = T60 call (fun l0 l1 i2 i3 s4 s5 l6 s7 s8 s9 l10 m11 => again (tdOf Tryd.f60 0) (K60_0 l0 l1 i2 i3 s4 s5 l6 s7 s8 s9 l10 m11)) a0 a1 := by kernel_rfl
def L60 (call : FuncId → Fun) : Nat → (List V → List V → Int → Int → List UInt8 → List UInt8 → List V → List UInt8 → List UInt8 → List UInt8 → List V → List (Sc × Sc) → Option (V × List Ob))
 | 0 => fun _ _ _ _ _ _ _ _ _ _ _ _ => none
 | n + 1 => T60_0 call (L60 call n)
theorem R60 (call : FuncId → Fun) (icall : ICall (V × List Ob)) : ∀ n, (∀ (l0 : List V) (l1 : List V) (i2 : Int) (i3 : Int) (s4 : List UInt8) (s5 : List UInt8) (l6 : List V) (s7 : List UInt8) (s8 : List UInt8) (s9 : List UInt8) (l10 : List V) (m11 : List (Sc × Sc)), RN 60 Tryd.f60 [] call icall n (tdOf Tryd.f60 0) (K60_0 l0 l1 i2 i3 s4 s5 l6 s7 s8 s9 l10 m11) = (L60 call n) l0 l1 i2 i3 s4 s5 l6 s7 s8 s9 l10 m11)
  | 0 => fun l0 l1 i2 i3 s4 s5 l6 s7 s8 s9 l10 m11 => rfl
  | n + 1 => by
    have ih := R60 call icall n
    exact fun l0 l1 i2 i3 s4 s5 l6 s7 s8 s9 l10 m11 => (S60_0 call icall (RN 60 Tryd.f60 [] call icall n) l0 l1 i2 i3 s4 s5 l6 s7 s8 s9 l10 m11).trans (by rw [show (fun l0 l1 i2 i3 s4 s5 l6 s7 s8 s9 l10 m11 => RN 60 Tryd.f60 [] call icall n (tdOf Tryd.f60 0) (K60_0 l0 l1 i2 i3 s4 s5 l6 s7 s8 s9 l10 m11)) = (L60 call n) from (funext fun l0 => funext fun l1 => funext fun i2 => funext fun i3 => funext fun s4 => funext fun s5 => funext fun l6 => funext fun s7 => funext fun s8 => funext fun s9 => funext fun l10 => funext fun m11 => ih l0 l1 i2 i3 s4 s5 l6 s7 s8 s9 l10 m11)]; rfl)
theorem C60 (k : Nat) (a0 : List UInt8) (a1 : Bool) : callN cfg (k + 1) 60 (A60 a0 a1) [] = T60 (callN cfg k) (L60 (callN cfg k) k) a0 a1 := by
 have ih := R60 (callN cfg k) (icallN cfg (callN cfg k) 20) k
 refine (show callN cfg (k + 1) 60 (A60 a0 a1) [] = GO 60 Tryd.f60 (A60 a0 a1) [] (callN cfg k) (icallN cfg (callN cfg k) 20) (RN 60 Tryd.f60 [] (callN cfg k) (icallN cfg (callN cfg k) 20) k) by kernel_rfl).trans ((E60 _ _ _ a0 a1).trans ?_)
 rw [show (fun l0 l1 i2 i3 s4 s5 l6 s7 s8 s9 l10 m11 => RN 60 Tryd.f60 [] (callN cfg k) (icallN cfg (callN cfg k) 20) k (tdOf Tryd.f60 0) (K60_0 l0 l1 i2 i3 s4 s5 l6 s7 s8 s9 l10 m11)) = (L60 (callN cfg k) k) from (funext fun l0 => funext fun l1 => funext fun i2 => funext fun i3 => funext fun s4 => funext fun s5 => funext fun l6 => funext fun s7 => funext fun s8 => funext fun s9 => funext fun l10 => funext fun m11 => ih l0 l1 i2 i3 s4 s5 l6 s7 s8 s9 l10 m11)]
theorem M60 (a0 : List UInt8) (a1 : Bool) {r : V × List Ob} (h : Evt (fun k n => T60 (callN cfg k) (L60 (callN cfg k) n) a0 a1) r) : Ret 60 [V.str a0, V.bool a1] [] r := ret_mk (g := fun k n => T60 (callN cfg k) (L60 (callN cfg k) n) a0 a1) (fun k => C60 k a0 a1) h
theorem N60_0 (l0 : List V) (l1 : List V) (i2 : Int) (i3 : Int) (s4 : List UInt8) (s5 : List UInt8) (l6 : List V) (s7 : List UInt8) (s8 : List UInt8) (s9 : List UInt8) (l10 : List V) (m11 : List (Sc × Sc)) {r : V × List Ob} (h : Evt (fun k n => T60_0 (callN cfg k) (L60 (callN cfg k) n) l0 l1 i2 i3 s4 s5 l6 s7 s8 s9 l10 m11) r) : Evt (fun k n => (L60 (callN cfg k) n) l0 l1 i2 i3 s4 s5 l6 s7 s8 s9 l10 m11) r := evt_step (fun k n => rfl) h
def T62 (call : FuncId → Fun) (a0 : List UInt8) (a1 : List UInt8) : Option (V × List Ob) :=
 Option.bind (call 65 [(V.str a0)] []) fun z0 =>
 Option.bind (call 65 [(V.str a1)] []) fun z1 =>
 some ((V.bool (sEq (getS z0.1) (getS z1.1))), [])
def A62 (a0 : List UInt8) (a1 : List UInt8) : List V := [V.str a0, V.str a1]
theorem E62 (a0 : List UInt8) (a1 : List UInt8) : GO 62 Tryd.f62 (A62 a0 a1) [] call icall again = T62 call a0 a1 := by kernel_rfl
theorem C62 (k : Nat) (a0 : List UInt8) (a1 : List UInt8) : callN cfg (k + 1) 62 (A62 a0 a1) [] = T62 (callN cfg k) a0 a1 :=
 (show callN cfg (k + 1) 62 (A62 a0 a1) [] = GO 62 Tryd.f62 (A62 a0 a1) [] (callN cfg k) (icallN cfg (callN cfg k) 20) (RN 62 Tryd.f62 [] (callN cfg k) (icallN cfg (callN cfg k) 20) k) by kernel_rfl).trans (E62 _ _ _ a0 a1)
theorem M62 (a0 : List UInt8) (a1 : List UInt8) {r : V × List Ob} (h : Evt (fun k n => T62 (callN cfg k) a0 a1) r) : Ret 62 [V.str a0, V.str a1] [] r := ret_mk (g := fun k n => T62 (callN cfg k) a0 a1) (fun k => C62 k a0 a1) h
def T80_0 (call : FuncId → Fun) (ag0 : List UInt8 → Option (V × List Ob)) (s0 : List UInt8) : Option (V × List Ob) :=
 if (decide (((length s0 : Nat) : Int) > (0 : Int))) = true then
 Option.bind (call 99 [(V.ref 0 0), (V.int .i64 0)] [(Ob.cells [(V.str s0)])]) fun z0 =>
 Option.bind (call 78 [(V.int .u8 (getI z0.1))] []) fun z1 =>
 if (getB z1.1) = true then
 chk (decide (0 ≤ (1 : Int))) (chk (decide ((1 : Int) ≤ ((length s0 : Nat) : Int))) ((ag0 ((drop (Int.toNat (1 : Int)) s0)))))
 else
 if ((getI z0.1) == (40 : Int)) = true then
 Option.bind (call 100 [(V.agg [(V.ref 0 0)])] [(Ob.cells [(V.str s0)])]) fun z2 =>
 chk (decide (0 ≤ (getI z2.1))) (chk (decide ((getI z2.1) ≤ ((length s0 : Nat) : Int))) ((ag0 ((drop (Int.toNat (getI z2.1)) s0)))))
 else
 some ((V.tup []), [(Ob.cells [(V.str s0)])])
 else
 some ((V.tup []), [(Ob.cells [(V.str s0)])])
def T80 (call : FuncId → Fun) (ag0 : List UInt8 → Option (V × List Ob)) (a0 : List UInt8) : Option (V × List Ob) :=
 (ag0 (a0))
def O80 (a0 : List UInt8) : List Ob := [Ob.cells [V.str a0]]
def A80 : List V := [V.agg [V.ref 0 0]]
def K80_0 (s0 : List UInt8) : St := ⟨[V.bot, (V.ref 1 0)] ++ List.replicate 39 V.bot, [(Ob.cells [(V.str s0)]), (Ob.cells [(V.ref 0 0)])]⟩
theorem S80_0 (a0 : List UInt8) (s0 : List UInt8) :
 RM 80 Tryd.f80 (O80 a0) call icall again (tdOf Tryd.f80 0) (K80_0 s0) = T80_0 call (fun s0 => again (tdOf Tryd.f80 0) (K80_0 s0)) s0 := by kernel_rfl
theorem E80 (a0 : List UInt8) : GO 80 Tryd.f80 A80 (O80 a0) call icall again = T80 call (fun s0 => again (tdOf Tryd.f80 0) (K80_0 s0)) a0 := by kernel_rfl
def L80 (call : FuncId → Fun) : Nat → (List UInt8 → Option (V × List Ob))
 | 0 => fun _ => none
 | n + 1 => T80_0 call (L80 call n)
theorem R80 (call : FuncId → Fun) (icall : ICall (V × List Ob)) (a0 : List UInt8) : ∀ n, (∀ (s0 : List UInt8), RN 80 Tryd.f80 (O80 a0) call icall n (tdOf Tryd.f80 0) (K80_0 s0) = (L80 call n) s0)
  | 0 => fun s0 => rfl
  | n + 1 => by
    have ih := R80 call icall a0 n
    exact fun s0 => (S80_0 call icall (RN 80 Tryd.f80 (O80 a0) call icall n) a0 s0).trans (by rw [show (fun s0 => RN 80 Tryd.f80 (O80 a0) call icall n (tdOf Tryd.f80 0) (K80_0 s0)) = (L80 call n) from (funext fun s0 => ih s0)]; rfl)
theorem C80 (k : Nat) (a0 : List UInt8) : callN cfg (k + 1) 80 A80 (O80 a0) = T80 (callN cfg k) (L80 (callN cfg k) k) a0 := by
 have ih := R80 (callN cfg k) (icallN cfg (callN cfg k) 20) a0 k
 refine (show callN cfg (k + 1) 80 A80 (O80 a0) = GO 80 Tryd.f80 A80 (O80 a0) (callN cfg k) (icallN cfg (callN cfg k) 20) (RN 80 Tryd.f80 (O80 a0) (callN cfg k) (icallN cfg (callN cfg k) 20) k) by kernel_rfl).trans ((E80 _ _ _ a0).trans ?_)
 rw [show (fun s0 => RN 80 Tryd.f80 (O80 a0) (callN cfg k) (icallN cfg (callN cfg k) 20) k (tdOf Tryd.f80 0) (K80_0 s0)) = (L80 (callN cfg k) k) from (funext fun s0 => ih s0)]
theorem M80 (a0 : List UInt8) {r : V × List Ob} (h : Evt (fun k n => T80 (callN cfg k) (L80 (callN cfg k) n) a0) r) : Ret 80 [V.agg [V.ref 0 0]] [Ob.cells [V.str a0]] r := ret_mk (g := fun k n => T80 (callN cfg k) (L80 (callN cfg k) n) a0) (fun k => C80 k a0) h
theorem N80_0 (s0 : List UInt8) {r : V × List Ob} (h : Evt (fun k n => T80_0 (callN cfg k) (L80 (callN cfg k) n) s0) r) : Evt (fun k n => (L80 (callN cfg k) n) s0) r := evt_step (fun k n => rfl) h
def T81_0 (call : FuncId → Fun) (ag0 : Int → List UInt8 → Option (V × List Ob)) (i0 : Int) (s1 : List UInt8) : Option (V × List Ob) :=
 if (decide (i0 < ((length s1 : Nat) : Int))) = true then
 chk (decide (0 ≤ i0)) (chk (decide (i0 < ((length s1 : Nat) : Int))) (Option.bind (call 101 [(V.int .u8 ((UInt8.toNat (getD s1 (Int.toNat i0) 0) : Nat) : Int))] []) fun z0 =>
 if (getB z0.1) = true then
 (ag0 ((IntKind.wrap .i64 (i0 + (1 : Int)))) (s1))
 else
 chk (decide (0 ≤ i0)) (chk (decide (i0 ≤ ((length s1 : Nat) : Int))) (chk (decide (0 ≤ (0 : Int))) (chk (decide ((0 : Int) ≤ i0)) (chk (decide (0 ≤ i0)) (chk (decide (i0 ≤ ((length s1 : Nat) : Int))) (some ((V.str (drop (Int.toNat (0 : Int)) (take (Int.toNat i0) s1))), [(Ob.cells [(V.str (drop (Int.toNat i0) s1))])])))))))))
 else
 chk (decide (0 ≤ i0)) (chk (decide (i0 ≤ ((length s1 : Nat) : Int))) (chk (decide (0 ≤ (0 : Int))) (chk (decide ((0 : Int) ≤ i0)) (chk (decide (0 ≤ i0)) (chk (decide (i0 ≤ ((length s1 : Nat) : Int))) (some ((V.str (drop (Int.toNat (0 : Int)) (take (Int.toNat i0) s1))), [(Ob.cells [(V.str (drop (Int.toNat i0) s1))])])))))))
def T81 (call : FuncId → Fun) (ag0 : Int → List UInt8 → Option (V × List Ob)) (a0 : List UInt8) : Option (V × List Ob) :=
 (ag0 ((0 : Int)) (a0))
def O81 (a0 : List UInt8) : List Ob := [Ob.cells [V.str a0]]
def A81 : List V := [V.agg [V.ref 0 0]]
def K81_0 (i0 : Int) (s1 : List UInt8) : St := ⟨[V.bot, (V.ref 1 0), V.bot, (V.int IntKind.i64 i0)] ++ List.replicate 40 V.bot, [(Ob.cells [(V.str s1)]), (Ob.cells [(V.ref 0 0)])]⟩
theorem S81_0 (a0 : List UInt8) (i0 : Int) (s1 : List UInt8) :
 RM 81 Tryd.f81 (O81 a0) call icall again (tdOf Tryd.f81 0) (K81_0 i0 s1) = T81_0 call (fun i0 s1 => again (tdOf Tryd.f81 0) (K81_0 i0 s1)) i0 s1 := by kernel_rfl
theorem E81 (a0 : List UInt8) : GO 81 Tryd.f81 A81 (O81 a0) call icall again = T81 call (fun i0 s1 => again (tdOf Tryd.f81 0) (K81_0 i0 s1)) a0 := by kernel_rfl
def L81 (call : FuncId → Fun) : Nat → (Int → List UInt8 → Option (V × List Ob))
 | 0 => fun _ _ => none
 | n + 1 => T81_0 call (L81 call n)
theorem R81 (call : FuncId → Fun) (icall : ICall (V × List Ob)) (a0 : List UInt8) : ∀ n, (∀ (i0 : Int) (s1 : List UInt8), RN 81 Tryd.f81 (O81 a0) call icall n (tdOf Tryd.f81 0) (K81_0 i0 s1) = (L81 call n) i0 s1)
  | 0 => fun i0 s1 => rfl
  | n + 1 => by
    have ih := R81 call icall a0 n
    exact fun i0 s1 => (S81_0 call icall (RN 81 Tryd.f81 (O81 a0) call icall n) a0 i0 s1).trans (by rw [show (fun i0 s1 => RN 81 Tryd.f81 (O81 a0) call icall n (tdOf Tryd.f81 0) (K81_0 i0 s1)) = (L81 call n) from (funext fun i0 => funext fun s1 => ih i0 s1)]; rfl)
theorem C81 (k : Nat) (a0 : List UInt8) : callN cfg (k + 1) 81 A81 (O81 a0) = T81 (callN cfg k) (L81 (callN cfg k) k) a0 := by
 have ih := R81 (callN cfg k) (icallN cfg (callN cfg k) 20) a0 k
 refine (show callN cfg (k + 1) 81 A81 (O81 a0) = GO 81 Tryd.f81 A81 (O81 a0) (callN cfg k) (icallN cfg (callN cfg k) 20) (RN 81 Tryd.f81 (O81 a0) (callN cfg k) (icallN cfg (callN cfg k) 20) k) by kernel_rfl).trans ((E81 _ _ _ a0).trans ?_)
 rw [show (fun i0 s1 => RN 81 Tryd.f81 (O81 a0) (callN cfg k) (icallN cfg (callN cfg k) 20) k (tdOf Tryd.f81 0) (K81_0 i0 s1)) = (L81 (callN cfg k) k) from (funext fun i0 => funext fun s1 => ih i0 s1)]
theorem M81 (a0 : List UInt8) {r : V × List Ob} (h : Evt (fun k n => T81 (callN cfg k) (L81 (callN cfg k) n) a0) r) : Ret 81 [V.agg [V.ref 0 0]] [Ob.cells [V.str a0]] r := ret_mk (g := fun k n => T81 (callN cfg k) (L81 (callN cfg k) n) a0) (fun k => C81 k a0) h
theorem N81_0 (i0 : Int) (s1 : List UInt8) {r : V × List Ob} (h : Evt (fun k n => T81_0 (callN cfg k) (L81 (callN cfg k) n) i0 s1) r) : Evt (fun k n => (L81 (callN cfg k) n) i0 s1) r := evt_step (fun k n => rfl) h
def T82 (call : FuncId → Fun) (a0 : List UInt8) (a1 : Int) : Option (V × List Ob) :=
 Option.bind (call 80 [(V.agg [(V.ref 0 0)])] [(Ob.cells [(V.str a0)])]) fun z0 =>
 Option.bind (call 99 [(V.ref 0 0), (V.int .i64 0)] [(Ob.cells [(V.str (getS (headD (Ob.getC (headD z0.2 Ob.dead)) V.bot)))])]) fun z1 =>
 if ((getI z1.1) != a1) = true then
 some ((V.bool false), [(Ob.cells [(V.str (getS (headD (Ob.getC (headD z0.2 Ob.dead)) V.bot)))])])
 else
 chk (decide (0 ≤ (1 : Int))) (chk (decide ((1 : Int) ≤ ((length (getS (headD (Ob.getC (headD z0.2 Ob.dead)) V.bot)) : Nat) : Int))) (Option.bind (call 80 [(V.agg [(V.ref 0 0)])] [(Ob.cells [(V.str (drop (Int.toNat (1 : Int)) (getS (headD (Ob.getC (headD z0.2 Ob.dead)) V.bot))))])]) fun z2 =>
 some ((V.bool true), [(Ob.cells [(V.str (getS (headD (Ob.getC (headD z2.2 Ob.dead)) V.bot)))])])))
def O82 (a0 : List UInt8) : List Ob := [Ob.cells [V.str a0]]
def A82 (a1 : Int) : List V := [V.agg [V.ref 0 0], V.int IntKind.u8 a1]
theorem E82 (a0 : List UInt8) (a1 : Int) : GO 82 Tryd.f82 (A82 a1) (O82 a0) call icall again = T82 call a0 a1 := by kernel_rfl
theorem C82 (k : Nat) (a0 : List UInt8) (a1 : Int) : callN cfg (k + 1) 82 (A82 a1) (O82 a0) = T82 (callN cfg k) a0 a1 :=
 (show callN cfg (k + 1) 82 (A82 a1) (O82 a0) = GO 82 Tryd.f82 (A82 a1) (O82 a0) (callN cfg k) (icallN cfg (callN cfg k) 20) (RN 82 Tryd.f82 (O82 a0) (callN cfg k) (icallN cfg (callN cfg k) 20) k) by kernel_rfl).trans (E82 _ _ _ a0 a1)
theorem M82 (a0 : List UInt8) (a1 : Int) {r : V × List Ob} (h : Evt (fun k n => T82 (callN cfg k) a0 a1) r) : Ret 82 [V.agg [V.ref 0 0], V.int IntKind.u8 a1] [Ob.cells [V.str a0]] r := ret_mk (g := fun k n => T82 (callN cfg k) a0 a1) (fun k => C82 k a0 a1) h
def T83_0 (call : FuncId → Fun) (ag0 : List V → List UInt8 → Option (V × List Ob)) (l0 : List V) (s1 : List UInt8) : Option (V × List Ob) :=
 Option.bind (call 82 [(V.agg [(V.ref 0 0)]), (V.int .u8 59)] [(Ob.cells [(V.str s1)])]) fun z0 =>
 if (getB z0.1) = true then
 Option.bind (call 81 [(V.agg [(V.ref 0 0)])] [(Ob.cells [(V.str (getS (headD (Ob.getC (headD z0.2 Ob.dead)) V.bot)))])]) fun z1 =>
 Option.bind (call 65 [(V.str (getS z1.1))] []) fun z2 =>
 if (sEq (getS z2.1) []) = false then
 Option.bind (call 82 [(V.agg [(V.ref 0 0)]), (V.int .u8 61)] [(Ob.cells [(V.str (getS (headD (Ob.getC (headD z1.2 Ob.dead)) V.bot)))])]) fun z3 =>
 if (!(getB z3.1)) = true then
 some ((V.lst 116 false l0), [(Ob.cells [(V.str (getS (headD (Ob.getC (headD z3.2 Ob.dead)) V.bot)))])])
 else
 Option.bind (call 102 [(V.agg [(V.ref 0 0)])] [(Ob.cells [(V.str (getS (headD (Ob.getC (headD z3.2 Ob.dead)) V.bot)))])]) fun z4 =>
 if (!(getB (headD (tail (getT z4.1)) V.bot))) = true then
 some ((V.lst 116 false l0), [(Ob.cells [(V.str (getS (headD (Ob.getC (headD z4.2 Ob.dead)) V.bot)))])])
 else
 chk (appOk l0 [(V.agg [(V.str (getS z2.1)), (V.str (getS (headD (getT z4.1) V.bot)))])] 33) ((ag0 ((l0 ++ [(V.agg [(V.str (getS z2.1)), (V.str (getS (headD (getT z4.1) V.bot)))])])) ((getS (headD (Ob.getC (headD z4.2 Ob.dead)) V.bot)))))
 else
 some ((V.lst 116 false l0), [(Ob.cells [(V.str (getS (headD (Ob.getC (headD z1.2 Ob.dead)) V.bot)))])])
 else
 some ((V.lst 116 false l0), [(Ob.cells [(V.str (getS (headD (Ob.getC (headD z0.2 Ob.dead)) V.bot)))])])
def T83 (call : FuncId → Fun) (ag0 : List V → List UInt8 → Option (V × List Ob)) (a0 : List UInt8) : Option (V × List Ob) :=
 (ag0 ([]) (a0))
def O83 (a0 : List UInt8) : List Ob := [Ob.cells [V.str a0]]
def A83 : List V := [V.agg [V.ref 0 0]]
def K83_0 (l0 : List V) (s1 : List UInt8) : St := ⟨[V.bot, (V.ref 1 0), V.bot, (V.lst 116 true l0)] ++ List.replicate 29 V.bot, [(Ob.cells [(V.str s1)]), (Ob.cells [(V.ref 0 0)])]⟩
theorem S83_0 (a0 : List UInt8) (l0 : List V) (s1 : List UInt8) :
 RM 83 Tryd.f83 (O83 a0) call icall again (tdOf Tryd.f83 0) (K83_0 l0 s1) = T83_0 call (fun l0 s1 => again (tdOf Tryd.f83 0) (K83_0 l0 s1)) l0 s1 := by kernel_rfl
theorem E83 (a0 : List UInt8) : GO 83 Tryd.f83 A83 (O83 a0) call icall again = T83 call (fun l0 s1 => again (tdOf Tryd.f83 0) (K83_0 l0 s1)) a0 := by kernel_rfl
def L83 (call : FuncId → Fun) : Nat → (List V → List UInt8 → Option (V × List Ob))
 | 0 => fun _ _ => none
 | n + 1 => T83_0 call (L83 call n)
theorem R83 (call : FuncId → Fun) (icall : ICall (V × List Ob)) (a0 : List UInt8) : ∀ n, (∀ (l0 : List V) (s1 : List UInt8), RN 83 Tryd.f83 (O83 a0) call icall n (tdOf Tryd.f83 0) (K83_0 l0 s1) = (L83 call n) l0 s1)
  | 0 => fun l0 s1 => rfl
  | n + 1 => by
    have ih := R83 call icall a0 n
    exact fun l0 s1 => (S83_0 call icall (RN 83 Tryd.f83 (O83 a0) call icall n) a0 l0 s1).trans (by rw [show (fun l0 s1 => RN 83 Tryd.f83 (O83 a0) call icall n (tdOf Tryd.f83 0) (K83_0 l0 s1)) = (L83 call n) from (funext fun l0 => funext fun s1 => ih l0 s1)]; rfl)
theorem C83 (k : Nat) (a0 : List UInt8) : callN cfg (k + 1) 83 A83 (O83 a0) = T83 (callN cfg k) (L83 (callN cfg k) k) a0 := by
 have ih := R83 (callN cfg k) (icallN cfg (callN cfg k) 20) a0 k
 refine (show callN cfg (k + 1) 83 A83 (O83 a0) = GO 83 Tryd.f83 A83 (O83 a0) (callN cfg k) (icallN cfg (callN cfg k) 20) (RN 83 Tryd.f83 (O83 a0) (callN cfg k) (icallN cfg (callN cfg k) 20) k) by kernel_rfl).trans ((E83 _ _ _ a0).trans ?_)
 rw [show (fun l0 s1 => RN 83 Tryd.f83 (O83 a0) (callN cfg k) (icallN cfg (callN cfg k) 20) k (tdOf Tryd.f83 0) (K83_0 l0 s1)) = (L83 (callN cfg k) k) from (funext fun l0 => funext fun s1 => ih l0 s1)]
theorem M83 (a0 : List UInt8) {r : V × List Ob} (h : Evt (fun k n => T83 (callN cfg k) (L83 (callN cfg k) n) a0) r) : Ret 83 [V.agg [V.ref 0 0]] [Ob.cells [V.str a0]] r := ret_mk (g := fun k n => T83 (callN cfg k) (L83 (callN cfg k) n) a0) (fun k => C83 k a0) h
theorem N83_0 (l0 : List V) (s1 : List UInt8) {r : V × List Ob} (h : Evt (fun k n => T83_0 (callN cfg k) (L83 (callN cfg k) n) l0 s1) r) : Evt (fun k n => (L83 (callN cfg k) n) l0 s1) r := evt_step (fun k n => rfl) h
def T84 (call : FuncId → Fun) (a0 : List UInt8) (a1 : List UInt8) : Option (V × List Ob) :=
 Option.bind (call 103 [(V.str a0), (V.str a1)] []) fun z0 =>
 some ((V.tup [(V.str (getS (headD (getT z0.1) V.bot))), (V.str (getS (headD (tail (getT z0.1)) V.bot))), (V.bool (getB (headD (tail (tail (getT z0.1))) V.bot)))]), [])
def A84 (a0 : List UInt8) (a1 : List UInt8) : List V := [V.str a0, V.str a1]
theorem E84 (a0 : List UInt8) (a1 : List UInt8) : GO 84 Tryd.f84 (A84 a0 a1) [] call icall again = T84 call a0 a1 := by kernel_rfl
theorem C84 (k : Nat) (a0 : List UInt8) (a1 : List UInt8) : callN cfg (k + 1) 84 (A84 a0 a1) [] = T84 (callN cfg k) a0 a1 :=
 (show callN cfg (k + 1) 84 (A84 a0 a1) [] = GO 84 Tryd.f84 (A84 a0 a1) [] (callN cfg k) (icallN cfg (callN cfg k) 20) (RN 84 Tryd.f84 [] (callN cfg k) (icallN cfg (callN cfg k) 20) k) by kernel_rfl).trans (E84 _ _ _ a0 a1)
theorem M84 (a0 : List UInt8) (a1 : List UInt8) {r : V × List Ob} (h : Evt (fun k n => T84 (callN cfg k) a0 a1) r) : Ret 84 [V.str a0, V.str a1] [] r := ret_mk (g := fun k n => T84 (callN cfg k) a0 a1) (fun k => C84 k a0 a1) h
def T85 (call : FuncId → Fun) (a0 : List V) (a1 : List UInt8) : Option (V × List Ob) :=
 Option.bind (call 104 [(V.lst 116 false a0), (V.str a1)] []) fun z0 =>
 if (getB (headD (tail (getT z0.1)) V.bot)) = true then
 some ((V.tup [(V.str (getS (headD (getT z0.1) V.bot))), (V.bool true)]), [])
 else
 chk (catOk a1 [42]) (Option.bind (call 104 [(V.lst 116 false a0), (V.str (a1 ++ [42]))] []) fun z1 =>
 if (getB (headD (tail (getT z1.1)) V.bot)) = true then
 Option.bind (call 106 [(V.str (getS (headD (getT z1.1) V.bot)))] []) fun z2 =>
 Option.bind (call 105 [(V.str (getS z2.1))] []) fun z3 =>
 some ((V.tup [(V.str (getS z3.1)), (V.bool true)]), [])
 else
 Option.bind (call 107 [(V.lst 116 false a0), (V.str a1)] []) fun z2 =>
 some ((V.tup [(V.str (getS (headD (getT z2.1) V.bot))), (V.bool (getB (headD (tail (getT z2.1)) V.bot)))]), []))
def A85 (a0 : List V) (a1 : List UInt8) : List V := [V.lst 116 false a0, V.str a1]
theorem E85 (a0 : List V) (a1 : List UInt8) : GO 85 Tryd.f85 (A85 a0 a1) [] call icall again = T85 call a0 a1 := by kernel_rfl
theorem C85 (k : Nat) (a0 : List V) (a1 : List UInt8) : callN cfg (k + 1) 85 (A85 a0 a1) [] = T85 (callN cfg k) a0 a1 :=
 (show callN cfg (k + 1) 85 (A85 a0 a1) [] = GO 85 Tryd.f85 (A85 a0 a1) [] (callN cfg k) (icallN cfg (callN cfg k) 20) (RN 85 Tryd.f85 [] (callN cfg k) (icallN cfg (callN cfg k) 20) k) by kernel_rfl).trans (E85 _ _ _ a0 a1)
theorem M85 (a0 : List V) (a1 : List UInt8) {r : V × List Ob} (h : Evt (fun k n => T85 (callN cfg k) a0 a1) r) : Ret 85 [V.lst 116 false a0, V.str a1] [] r := ret_mk (g := fun k n => T85 (callN cfg k) a0 a1) (fun k => C85 k a0 a1) h
def T99 (call : FuncId → Fun) (a0 : List UInt8) (a1 : Int) : Option (V × List Ob) :=
 if (decide (a1 ≥ ((length a0 : Nat) : Int))) = true then
 some ((V.int .u8 0), [(Ob.cells [(V.str a0)])])
 else
 chk (decide (0 ≤ a1)) (chk (decide (a1 < ((length a0 : Nat) : Int))) (some ((V.int .u8 ((UInt8.toNat (getD a0 (Int.toNat a1) 0) : Nat) : Int)), [(Ob.cells [(V.str a0)])])))
def O99 (a0 : List UInt8) : List Ob := [Ob.cells [V.str a0]]
def A99 (a1 : Int) : List V := [V.ref 0 0, V.int IntKind.i64 a1]
theorem E99 (a0 : List UInt8) (a1 : Int) : GO 99 Tryd.f99 (A99 a1) (O99 a0) call icall again = T99 call a0 a1 := by kernel_rfl
theorem C99 (k : Nat) (a0 : List UInt8) (a1 : Int) : callN cfg (k + 1) 99 (A99 a1) (O99 a0) = T99 (callN cfg k) a0 a1 :=
 (show callN cfg (k + 1) 99 (A99 a1) (O99 a0) = GO 99 Tryd.f99 (A99 a1) (O99 a0) (callN cfg k) (icallN cfg (callN cfg k) 20) (RN 99 Tryd.f99 (O99 a0) (callN cfg k) (icallN cfg (callN cfg k) 20) k) by kernel_rfl).trans (E99 _ _ _ a0 a1)
theorem M99 (a0 : List UInt8) (a1 : Int) {r : V × List Ob} (h : Evt (fun k n => T99 (callN cfg k) a0 a1) r) : Ret 99 [V.ref 0 0, V.int IntKind.i64 a1] [Ob.cells [V.str a0]] r := ret_mk (g := fun k n => T99 (callN cfg k) a0 a1) (fun k => C99 k a0 a1) h
def T78 (call : FuncId → Fun) (a0 : Int) : Option (V × List Ob) :=
 Option.bind (if (a0 == (32 : Int)) = false then
 some (a0 == (9 : Int))
 else
 some true) fun y0 =>
 some ((V.bool y0), [])
def A78 (a0 : Int) : List V := [V.int IntKind.u8 a0]
theorem E78 (a0 : Int) : GO 78 Tryd.f78 (A78 a0) [] call icall again = T78 call a0 := by kernel_rfl
theorem C78 (k : Nat) (a0 : Int) : callN cfg (k + 1) 78 (A78 a0) [] = T78 (callN cfg k) a0 :=
 (show callN cfg (k + 1) 78 (A78 a0) [] = GO 78 Tryd.f78 (A78 a0) [] (callN cfg k) (icallN cfg (callN cfg k) 20) (RN 78 Tryd.f78 [] (callN cfg k) (icallN cfg (callN cfg k) 20) k) by kernel_rfl).trans (E78 _ _ _ a0)
theorem M78 (a0 : Int) {r : V × List Ob} (h : Evt (fun k n => T78 (callN cfg k) a0) r) : Ret 78 [V.int IntKind.u8 a0] [] r := ret_mk (g := fun k n => T78 (callN cfg k) a0) (fun k => C78 k a0) h
def T100_0 (call : FuncId → Fun) (ag0 : Int → Int → List UInt8 → Option (V × List Ob)) (i0 : Int) (i1 : Int) (s2 : List UInt8) : Option (V × List Ob) :=
 if (decide (i1 < ((length s2 : Nat) : Int))) = true then
 chk (decide (0 ≤ i1)) (chk (decide (i1 < ((length s2 : Nat) : Int))) (if (((UInt8.toNat (getD s2 (Int.toNat i1) 0) : Nat) : Int) == (92 : Int)) = true then
 (ag0 (i0) ((IntKind.wrap .i64 ((IntKind.wrap .i64 (i1 + (1 : Int))) + (1 : Int)))) (s2))
 else
 if (((UInt8.toNat (getD s2 (Int.toNat i1) 0) : Nat) : Int) == (40 : Int)) = true then
 (ag0 ((IntKind.wrap .i64 (i0 + (1 : Int)))) ((IntKind.wrap .i64 (i1 + (1 : Int)))) (s2))
 else
 if (((UInt8.toNat (getD s2 (Int.toNat i1) 0) : Nat) : Int) == (41 : Int)) = true then
 if ((IntKind.wrap .i64 (i0 - (1 : Int))) == (0 : Int)) = true then
 some ((V.int .i64 (IntKind.wrap .i64 (i1 + (1 : Int)))), [(Ob.cells [(V.str s2)])])
 else
 (ag0 ((IntKind.wrap .i64 (i0 - (1 : Int)))) ((IntKind.wrap .i64 (i1 + (1 : Int)))) (s2))
 else
 (ag0 (i0) ((IntKind.wrap .i64 (i1 + (1 : Int)))) (s2))))
 else
 some ((V.int .i64 ((length s2 : Nat) : Int)), [(Ob.cells [(V.str s2)])])
def T100 (call : FuncId → Fun) (ag0 : Int → Int → List UInt8 → Option (V × List Ob)) (a0 : List UInt8) : Option (V × List Ob) :=
 (ag0 ((0 : Int)) ((0 : Int)) (a0))
def O100 (a0 : List UInt8) : List Ob := [Ob.cells [V.str a0]]
def A100 : List V := [V.agg [V.ref 0 0]]
def K100_0 (i0 : Int) (i1 : Int) (s2 : List UInt8) : St := ⟨[V.bot, (V.ref 1 0), V.bot, (V.int IntKind.i64 i0), (V.int IntKind.i64 i1)] ++ List.replicate 39 V.bot, [(Ob.cells [(V.str s2)]), (Ob.cells [(V.ref 0 0)])]⟩
theorem S100_0 (a0 : List UInt8) (i0 : Int) (i1 : Int) (s2 : List UInt8) :
 RM 100 Tryd.f100 (O100 a0) call icall again (tdOf Tryd.f100 0) (K100_0 i0 i1 s2) = T100_0 call (fun i0 i1 s2 => again (tdOf Tryd.f100 0) (K100_0 i0 i1 s2)) i0 i1 s2 := by kernel_rfl
theorem E100 (a0 : List UInt8) : GO 100 Tryd.f100 A100 (O100 a0) call icall again = T100 call (fun i0 i1 s2 => again (tdOf Tryd.f100 0) (K100_0 i0 i1 s2)) a0 := by kernel_rfl
def L100 (call : FuncId → Fun) : Nat → (Int → Int → List UInt8 → Option (V × List Ob))
 | 0 => fun _ _ _ => none
 | n + 1 => T100_0 call (L100 call n)
theorem R100 (call : FuncId → Fun) (icall : ICall (V × List Ob)) (a0 : List UInt8) : ∀ n, (∀ (i0 : Int) (i1 : Int) (s2 : List UInt8), RN 100 Tryd.f100 (O100 a0) call icall n (tdOf Tryd.f100 0) (K100_0 i0 i1 s2) = (L100 call n) i0 i1 s2)
  | 0 => fun i0 i1 s2 => rfl
  | n + 1 => by
    have ih := R100 call icall a0 n
    exact fun i0 i1 s2 => (S100_0 call icall (RN 100 Tryd.f100 (O100 a0) call icall n) a0 i0 i1 s2).trans (by rw [show (fun i0 i1 s2 => RN 100 Tryd.f100 (O100 a0) call icall n (tdOf Tryd.f100 0) (K100_0 i0 i1 s2)) = (L100 call n) from (funext fun i0 => funext fun i1 => funext fun s2 => ih i0 i1 s2)]; rfl)
theorem C100 (k : Nat) (a0 : List UInt8) : callN cfg (k + 1) 100 A100 (O100 a0) = T100 (callN cfg k) (L100 (callN cfg k) k) a0 := by
 have ih := R100 (callN cfg k) (icallN cfg (callN cfg k) 20) a0 k
 refine (show callN cfg (k + 1) 100 A100 (O100 a0) = GO 100 Tryd.f100 A100 (O100 a0) (callN cfg k) (icallN cfg (callN cfg k) 20) (RN 100 Tryd.f100 (O100 a0) (callN cfg k) (icallN cfg (callN cfg k) 20) k) by kernel_rfl).trans ((E100 _ _ _ a0).trans ?_)
 rw [show (fun i0 i1 s2 => RN 100 Tryd.f100 (O100 a0) (callN cfg k) (icallN cfg (callN cfg k) 20) k (tdOf Tryd.f100 0) (K100_0 i0 i1 s2)) = (L100 (callN cfg k) k) from (funext fun i0 => funext fun i1 => funext fun s2 => ih i0 i1 s2)]
theorem M100 (a0 : List UInt8) {r : V × List Ob} (h : Evt (fun k n => T100 (callN cfg k) (L100 (callN cfg k) n) a0) r) : Ret 100 [V.agg [V.ref 0 0]] [Ob.cells [V.str a0]] r := ret_mk (g := fun k n => T100 (callN cfg k) (L100 (callN cfg k) n) a0) (fun k => C100 k a0) h
theorem N100_0 (i0 : Int) (i1 : Int) (s2 : List UInt8) {r : V × List Ob} (h : Evt (fun k n => T100_0 (callN cfg k) (L100 (callN cfg k) n) i0 i1 s2) r) : Evt (fun k n => (L100 (callN cfg k) n) i0 i1 s2) r := evt_step (fun k n => rfl) h
def T90 (call : FuncId → Fun) (a0 : Int) : Option (V × List Ob) :=
 Option.bind (if (decide (a0 ≥ (65 : Int))) = true then
 some (decide (a0 ≤ (90 : Int)))
 else
 some false) fun y0 =>
 if y0 = true then
 some ((V.int .u8 (IntKind.wrap .u8 ((IntKind.wrap .u8 (a0 - (65 : Int))) + (97 : Int)))), [])
 else
 some ((V.int .u8 a0), [])
def A90 (a0 : Int) : List V := [V.int IntKind.u8 a0]
theorem E90 (a0 : Int) : GO 90 Tryd.f90 (A90 a0) [] call icall again = T90 call a0 := by kernel_rfl
theorem C90 (k : Nat) (a0 : Int) : callN cfg (k + 1) 90 (A90 a0) [] = T90 (callN cfg k) a0 :=
 (show callN cfg (k + 1) 90 (A90 a0) [] = GO 90 Tryd.f90 (A90 a0) [] (callN cfg k) (icallN cfg (callN cfg k) 20) (RN 90 Tryd.f90 [] (callN cfg k) (icallN cfg (callN cfg k) 20) k) by kernel_rfl).trans (E90 _ _ _ a0)
theorem M90 (a0 : Int) {r : V × List Ob} (h : Evt (fun k n => T90 (callN cfg k) a0) r) : Ret 90 [V.int IntKind.u8 a0] [] r := ret_mk (g := fun k n => T90 (callN cfg k) a0) (fun k => C90 k a0) h
def T101 (call : FuncId → Fun) (a0 : Int) : Option (V × List Ob) :=
 if (decide (a0 ≥ (33 : Int))) = true then
 if (decide (a0 ≤ (126 : Int))) = true then
 Option.bind (call 111 [(V.str [40, 41, 60, 62, 64, 44, 59, 58, 92, 34, 47, 91, 93, 63, 61]), (V.int .u8 a0)] []) fun z0 =>
 some ((V.bool (!(getB z0.1))), [])
 else
 some ((V.bool false), [])
 else
 some ((V.bool false), [])
def A101 (a0 : Int) : List V := [V.int IntKind.u8 a0]
theorem E101 (a0 : Int) : GO 101 Tryd.f101 (A101 a0) [] call icall again = T101 call a0 := by kernel_rfl
theorem C101 (k : Nat) (a0 : Int) : callN cfg (k + 1) 101 (A101 a0) [] = T101 (callN cfg k) a0 :=
 (show callN cfg (k + 1) 101 (A101 a0) [] = GO 101 Tryd.f101 (A101 a0) [] (callN cfg k) (icallN cfg (callN cfg k) 20) (RN 101 Tryd.f101 [] (callN cfg k) (icallN cfg (callN cfg k) 20) k) by kernel_rfl).trans (E101 _ _ _ a0)
theorem M101 (a0 : Int) {r : V × List Ob} (h : Evt (fun k n => T101 (callN cfg k) a0) r) : Ret 101 [V.int IntKind.u8 a0] [] r := ret_mk (g := fun k n => T101 (callN cfg k) a0) (fun k => C101 k a0) h
def T102 (call : FuncId → Fun) (a0 : List UInt8) : Option (V × List Ob) :=
 Option.bind (call 99 [(V.ref 0 0), (V.int .i64 0)] [(Ob.cells [(V.str a0)])]) fun z0 =>
 if ((getI z0.1) == (34 : Int)) = true then
 Option.bind (call 112 [(V.agg [(V.ref 0 0)])] [(Ob.cells [(V.str a0)])]) fun z1 =>
 some ((V.tup [(V.str (getS (headD (getT z1.1) V.bot))), (V.bool (getB (headD (tail (getT z1.1)) V.bot)))]), [(Ob.cells [(V.str (getS (headD (Ob.getC (headD z1.2 Ob.dead)) V.bot)))])])
 else
 Option.bind (call 81 [(V.agg [(V.ref 0 0)])] [(Ob.cells [(V.str a0)])]) fun z1 =>
 some ((V.tup [(V.str (getS z1.1)), (V.bool (!(sEq (getS z1.1) [])))]), [(Ob.cells [(V.str (getS (headD (Ob.getC (headD z1.2 Ob.dead)) V.bot)))])])
def O102 (a0 : List UInt8) : List Ob := [Ob.cells [V.str a0]]
def A102 : List V := [V.agg [V.ref 0 0]]
theorem E102 (a0 : List UInt8) : GO 102 Tryd.f102 A102 (O102 a0) call icall again = T102 call a0 := by kernel_rfl
theorem C102 (k : Nat) (a0 : List UInt8) : callN cfg (k + 1) 102 A102 (O102 a0) = T102 (callN cfg k) a0 :=
 (show callN cfg (k + 1) 102 A102 (O102 a0) = GO 102 Tryd.f102 A102 (O102 a0) (callN cfg k) (icallN cfg (callN cfg k) 20) (RN 102 Tryd.f102 (O102 a0) (callN cfg k) (icallN cfg (callN cfg k) 20) k) by kernel_rfl).trans (E102 _ _ _ a0)
theorem M102 (a0 : List UInt8) {r : V × List Ob} (h : Evt (fun k n => T102 (callN cfg k) a0) r) : Ret 102 [V.agg [V.ref 0 0]] [Ob.cells [V.str a0]] r := ret_mk (g := fun k n => T102 (callN cfg k) a0) (fun k => C102 k a0) h
def T103 (call : FuncId → Fun) (a0 : List UInt8) (a1 : List UInt8) : Option (V × List Ob) :=
 Option.bind (call 113 [(V.str a0), (V.str a1)] []) fun z0 =>
 if (decide ((getI z0.1) ≥ (0 : Int))) = true then
 chk (decide (0 ≤ (getI z0.1))) (chk (decide ((getI z0.1) ≤ ((length a0 : Nat) : Int))) (chk (decide (0 ≤ (0 : Int))) (chk (decide ((0 : Int) ≤ (getI z0.1))) (chk (decide (0 ≤ (IntKind.wrap .i64 ((getI z0.1) + ((length a1 : Nat) : Int))))) (chk (decide ((IntKind.wrap .i64 ((getI z0.1) + ((length a1 : Nat) : Int))) ≤ ((length a0 : Nat) : Int))) (some ((V.tup [(V.str (drop (Int.toNat (0 : Int)) (take (Int.toNat (getI z0.1)) a0))), (V.str (drop (Int.toNat (IntKind.wrap .i64 ((getI z0.1) + ((length a1 : Nat) : Int)))) a0)), (V.bool true)]), [])))))))
 else
 some ((V.tup [(V.str a0), (V.str []), (V.bool false)]), [])
def A103 (a0 : List UInt8) (a1 : List UInt8) : List V := [V.str a0, V.str a1]
theorem E103 (a0 : List UInt8) (a1 : List UInt8) : GO 103 Tryd.f103 (A103 a0 a1) [] call icall again = T103 call a0 a1 := by kernel_rfl
theorem C103 (k : Nat) (a0 : List UInt8) (a1 : List UInt8) : callN cfg (k + 1) 103 (A103 a0 a1) [] = T103 (callN cfg k) a0 a1 :=
 (show callN cfg (k + 1) 103 (A103 a0 a1) [] = GO 103 Tryd.f103 (A103 a0 a1) [] (callN cfg k) (icallN cfg (callN cfg k) 20) (RN 103 Tryd.f103 [] (callN cfg k) (icallN cfg (callN cfg k) 20) k) by kernel_rfl).trans (E103 _ _ _ a0 a1)
theorem M103 (a0 : List UInt8) (a1 : List UInt8) {r : V × List Ob} (h : Evt (fun k n => T103 (callN cfg k) a0 a1) r) : Ret 103 [V.str a0, V.str a1] [] r := ret_mk (g := fun k n => T103 (callN cfg k) a0 a1) (fun k => C103 k a0 a1) h
def T104_0 (call : FuncId → Fun) (ag0 : List UInt8 → List V → Int → Int → Option (V × List Ob)) (s0 : List UInt8) (l1 : List V) (i2 : Int) (i3 : Int) : Option (V × List Ob) :=
 if (decide (i3 < i2)) = true then
 chk (decide (0 ≤ i3)) (chk (decide (i3 < ((length l1 : Nat) : Int))) (if (sEq (getS (headD (V.cells (getD l1 (Int.toNat i3) V.bot)) V.bot)) s0) = true then
 some ((V.tup [(V.str (getS (headD (tail (V.cells (getD l1 (Int.toNat i3) V.bot))) V.bot))), (V.bool true)]), [])
 else
 (ag0 (s0) (l1) (i2) ((IntKind.wrap .i64 (i3 + (1 : Int)))))))
 else
 some ((V.tup [(V.str []), (V.bool false)]), [])
def T104 (call : FuncId → Fun) (ag0 : List UInt8 → List V → Int → Int → Option (V × List Ob)) (a0 : List V) (a1 : List UInt8) : Option (V × List Ob) :=
 (ag0 (a1) (a0) (((length a0 : Nat) : Int)) ((0 : Int)))
def A104 (a0 : List V) (a1 : List UInt8) : List V := [V.lst 116 false a0, V.str a1]
def K104_0 (s0 : List UInt8) (l1 : List V) (i2 : Int) (i3 : Int) : St := ⟨[V.bot, (V.str s0), V.bot, V.bot, V.bot, V.bot, V.bot, V.bot, (V.lst 116 false l1), (V.int IntKind.i64 i2), (V.int IntKind.i64 i3)] ++ List.replicate 10 V.bot, []⟩
theorem S104_0 (s0 : List UInt8) (l1 : List V) (i2 : Int) (i3 : Int) :
 RM 104 Tryd.f104 [] call icall again (tdOf Tryd.f104 0) (K104_0 s0 l1 i2 i3) = T104_0 call (fun s0 l1 i2 i3 => again (tdOf Tryd.f104 0) (K104_0 s0 l1 i2 i3)) s0 l1 i2 i3 := by kernel_rfl
theorem E104 (a0 : List V) (a1 : List UInt8) : GO 104 Tryd.f104 (A104 a0 a1) [] call icall again = T104 call (fun s0 l1 i2 i3 => again (tdOf Tryd.f104 0) (K104_0 s0 l1 i2 i3)) a0 a1 := by kernel_rfl
def L104 (call : FuncId → Fun) : Nat → (List UInt8 → List V → Int → Int → Option (V × List Ob))
 | 0 => fun _ _ _ _ => none
 | n + 1 => T104_0 call (L104 call n)
theorem R104 (call : FuncId → Fun) (icall : ICall (V × List Ob)) : ∀ n, (∀ (s0 : List UInt8) (l1 : List V) (i2 : Int) (i3 : Int), RN 104 Tryd.f104 [] call icall n (tdOf Tryd.f104 0) (K104_0 s0 l1 i2 i3) = (L104 call n) s0 l1 i2 i3)
  | 0 => fun s0 l1 i2 i3 => rfl
  | n + 1 => by
    have ih := R104 call icall n
    exact fun s0 l1 i2 i3 => (S104_0 call icall (RN 104 Tryd.f104 [] call icall n) s0 l1 i2 i3).trans (by rw [show (fun s0 l1 i2 i3 => RN 104 Tryd.f104 [] call icall n (tdOf Tryd.f104 0) (K104_0 s0 l1 i2 i3)) = (L104 call n) from (funext fun s0 => funext fun l1 => funext fun i2 => funext fun i3 => ih s0 l1 i2 i3)]; rfl)
theorem C104 (k : Nat) (a0 : List V) (a1 : List UInt8) : callN cfg (k + 1) 104 (A104 a0 a1) [] = T104 (callN cfg k) (L104 (callN cfg k) k) a0 a1 := by
 have ih := R104 (callN cfg k) (icallN cfg (callN cfg k) 20) k
 refine (show callN cfg (k + 1) 104 (A104 a0 a1) [] = GO 104 Tryd.f104 (A104 a0 a1) [] (callN cfg k) (icallN cfg (callN cfg k) 20) (RN 104 Tryd.f104 [] (callN cfg k) (icallN cfg (callN cfg k) 20) k) by kernel_rfl).trans ((E104 _ _ _ a0 a1).trans ?_)
 rw [show (fun s0 l1 i2 i3 => RN 104 Tryd.f104 [] (callN cfg k) (icallN cfg (callN cfg k) 20) k (tdOf Tryd.f104 0) (K104_0 s0 l1 i2 i3)) = (L104 (callN cfg k) k) from (funext fun s0 => funext fun l1 => funext fun i2 => funext fun i3 => ih s0 l1 i2 i3)]
theorem M104 (a0 : List V) (a1 : List UInt8) {r : V × List Ob} (h : Evt (fun k n => T104 (callN cfg k) (L104 (callN cfg k) n) a0 a1) r) : Ret 104 [V.lst 116 false a0, V.str a1] [] r := ret_mk (g := fun k n => T104 (callN cfg k) (L104 (callN cfg k) n) a0 a1) (fun k => C104 k a0 a1) h
theorem N104_0 (s0 : List UInt8) (l1 : List V) (i2 : Int) (i3 : Int) {r : V × List Ob} (h : Evt (fun k n => T104_0 (callN cfg k) (L104 (callN cfg k) n) s0 l1 i2 i3) r) : Evt (fun k n => (L104 (callN cfg k) n) s0 l1 i2 i3) r := evt_step (fun k n => rfl) h
def T105_0 (call : FuncId → Fun) (ag0 : List UInt8 → List V → Int → Option (V × List Ob)) (s0 : List UInt8) (l1 : List V) (i2 : Int) : Option (V × List Ob) :=
 if (decide (i2 < ((length s0 : Nat) : Int))) = true then
 Option.bind (chk (decide (0 ≤ i2)) (chk (decide (i2 < ((length s0 : Nat) : Int))) (if (((UInt8.toNat (getD s0 (Int.toNat i2) 0) : Nat) : Int) == (37 : Int)) = true then
 some (decide ((IntKind.wrap .i64 (i2 + (2 : Int))) < ((length s0 : Nat) : Int)))
 else
 some false))) fun y0 =>
 if y0 = true then
 chk (decide (0 ≤ (IntKind.wrap .i64 (i2 + (1 : Int))))) (chk (decide ((IntKind.wrap .i64 (i2 + (1 : Int))) < ((length s0 : Nat) : Int))) (Option.bind (call 114 [(V.int .u8 ((UInt8.toNat (getD s0 (Int.toNat (IntKind.wrap .i64 (i2 + (1 : Int)))) 0) : Nat) : Int))] []) fun z1 =>
 chk (decide (0 ≤ (IntKind.wrap .i64 (i2 + (2 : Int))))) (chk (decide ((IntKind.wrap .i64 (i2 + (2 : Int))) < ((length s0 : Nat) : Int))) (Option.bind (call 114 [(V.int .u8 ((UInt8.toNat (getD s0 (Int.toNat (IntKind.wrap .i64 (i2 + (2 : Int)))) 0) : Nat) : Int))] []) fun z2 =>
 Option.bind (if (getB (headD (tail (getT z1.1)) V.bot)) = true then
 some (getB (headD (tail (getT z2.1)) V.bot))
 else
 some false) fun y3 =>
 if y3 = true then
 chk (decide (0 ≤ (4 : Int))) (chk (appOk l1 [(V.int .u8 (bits BinOp.or .u8 (IntKind.wrap .u8 ((getI (headD (getT z1.1) V.bot)) * 2 ^ min (Int.toNat (4 : Int)) (IntKind.bits .u8))) (getI (headD (getT z2.1) V.bot))))] 2) ((ag0 (s0) ((l1 ++ [(V.int .u8 (bits BinOp.or .u8 (IntKind.wrap .u8 ((getI (headD (getT z1.1) V.bot)) * 2 ^ min (Int.toNat (4 : Int)) (IntKind.bits .u8))) (getI (headD (getT z2.1) V.bot))))])) ((IntKind.wrap .i64 ((IntKind.wrap .i64 (i2 + (2 : Int))) + (1 : Int)))))))
 else
 chk (decide (0 ≤ i2)) (chk (decide (i2 < ((length s0 : Nat) : Int))) (chk (appOk l1 [(V.int .u8 ((UInt8.toNat (getD s0 (Int.toNat i2) 0) : Nat) : Int))] 2) ((ag0 (s0) ((l1 ++ [(V.int .u8 ((UInt8.toNat (getD s0 (Int.toNat i2) 0) : Nat) : Int))])) ((IntKind.wrap .i64 (i2 + (1 : Int))))))))))))
 else
 chk (decide (0 ≤ i2)) (chk (decide (i2 < ((length s0 : Nat) : Int))) (chk (appOk l1 [(V.int .u8 ((UInt8.toNat (getD s0 (Int.toNat i2) 0) : Nat) : Int))] 2) ((ag0 (s0) ((l1 ++ [(V.int .u8 ((UInt8.toNat (getD s0 (Int.toNat i2) 0) : Nat) : Int))])) ((IntKind.wrap .i64 (i2 + (1 : Int))))))))
 else
 some ((V.str (bytesOf l1)), [])
def T105 (call : FuncId → Fun) (ag0 : List UInt8 → List V → Int → Option (V × List Ob)) (a0 : List UInt8) : Option (V × List Ob) :=
 (ag0 (a0) ([]) ((0 : Int)))
def A105 (a0 : List UInt8) : List V := [V.str a0]
def K105_0 (s0 : List UInt8) (l1 : List V) (i2 : Int) : St := ⟨[(V.str s0), V.bot, V.bot, (V.lst 5 true l1), (V.int IntKind.i64 i2)] ++ List.replicate 58 V.bot, []⟩
theorem S105_0 (s0 : List UInt8) (l1 : List V) (i2 : Int) :
 RM 105 Tryd.f105 [] call icall again (tdOf Tryd.f105 0) (K105_0 s0 l1 i2) = T105_0 call (fun s0 l1 i2 => again (tdOf Tryd.f105 0) (K105_0 s0 l1 i2)) s0 l1 i2 := by kernel_rfl
theorem E105 (a0 : List UInt8) : GO 105 Tryd.f105 (A105 a0) [] call icall again = T105 call (fun s0 l1 i2 => again (tdOf Tryd.f105 0) (K105_0 s0 l1 i2)) a0 := by kernel_rfl
def L105 (call : FuncId → Fun) : Nat → (List UInt8 → List V → Int → Option (V × List Ob))
 | 0 => fun _ _ _ => none
 | n + 1 => T105_0 call (L105 call n)
theorem R105 (call : FuncId → Fun) (icall : ICall (V × List Ob)) : ∀ n, (∀ (s0 : List UInt8) (l1 : List V) (i2 : Int), RN 105 Tryd.f105 [] call icall n (tdOf Tryd.f105 0) (K105_0 s0 l1 i2) = (L105 call n) s0 l1 i2)
  | 0 => fun s0 l1 i2 => rfl
  | n + 1 => by
    have ih := R105 call icall n
    exact fun s0 l1 i2 => (S105_0 call icall (RN 105 Tryd.f105 [] call icall n) s0 l1 i2).trans (by rw [show (fun s0 l1 i2 => RN 105 Tryd.f105 [] call icall n (tdOf Tryd.f105 0) (K105_0 s0 l1 i2)) = (L105 call n) from (funext fun s0 => funext fun l1 => funext fun i2 => ih s0 l1 i2)]; rfl)
theorem C105 (k : Nat) (a0 : List UInt8) : callN cfg (k + 1) 105 (A105 a0) [] = T105 (callN cfg k) (L105 (callN cfg k) k) a0 := by
 have ih := R105 (callN cfg k) (icallN cfg (callN cfg k) 20) k
 refine (show callN cfg (k + 1) 105 (A105 a0) [] = GO 105 Tryd.f105 (A105 a0) [] (callN cfg k) (icallN cfg (callN cfg k) 20) (RN 105 Tryd.f105 [] (callN cfg k) (icallN cfg (callN cfg k) 20) k) by kernel_rfl).trans ((E105 _ _ _ a0).trans ?_)
 rw [show (fun s0 l1 i2 => RN 105 Tryd.f105 [] (callN cfg k) (icallN cfg (callN cfg k) 20) k (tdOf Tryd.f105 0) (K105_0 s0 l1 i2)) = (L105 (callN cfg k) k) from (funext fun s0 => funext fun l1 => funext fun i2 => ih s0 l1 i2)]
theorem M105 (a0 : List UInt8) {r : V × List Ob} (h : Evt (fun k n => T105 (callN cfg k) (L105 (callN cfg k) n) a0) r) : Ret 105 [V.str a0] [] r := ret_mk (g := fun k n => T105 (callN cfg k) (L105 (callN cfg k) n) a0) (fun k => C105 k a0) h
theorem N105_0 (s0 : List UInt8) (l1 : List V) (i2 : Int) {r : V × List Ob} (h : Evt (fun k n => T105_0 (callN cfg k) (L105 (callN cfg k) n) s0 l1 i2) r) : Evt (fun k n => (L105 (callN cfg k) n) s0 l1 i2) r := evt_step (fun k n => rfl) h
def T106 (call : FuncId → Fun) (a0 : List UInt8) : Option (V × List Ob) :=
 Option.bind (call 115 [(V.str a0), (V.str [39]), (V.int .i64 3)] []) fun z0 =>
 if (decide (((length (getL z0.1) : Nat) : Int) < (3 : Int))) = true then
 some ((V.str a0), [])
 else
 chk (decide (0 ≤ (2 : Int))) (chk (decide ((2 : Int) < ((length (getL z0.1) : Nat) : Int))) (some ((V.str (getS (getD (getL z0.1) (Int.toNat (2 : Int)) V.bot))), [])))
def A106 (a0 : List UInt8) : List V := [V.str a0]
theorem E106 (a0 : List UInt8) : GO 106 Tryd.f106 (A106 a0) [] call icall again = T106 call a0 := by kernel_rfl
theorem C106 (k : Nat) (a0 : List UInt8) : callN cfg (k + 1) 106 (A106 a0) [] = T106 (callN cfg k) a0 :=
 (show callN cfg (k + 1) 106 (A106 a0) [] = GO 106 Tryd.f106 (A106 a0) [] (callN cfg k) (icallN cfg (callN cfg k) 20) (RN 106 Tryd.f106 [] (callN cfg k) (icallN cfg (callN cfg k) 20) k) by kernel_rfl).trans (E106 _ _ _ a0)
theorem M106 (a0 : List UInt8) {r : V × List Ob} (h : Evt (fun k n => T106 (callN cfg k) a0) r) : Ret 106 [V.str a0] [] r := ret_mk (g := fun k n => T106 (callN cfg k) a0) (fun k => C106 k a0) h
def T107_0 (call : FuncId → Fun) (ag0 : List V → List UInt8 → List UInt8 → Int → Option (V × List Ob)) (l0 : List V) (s1 : List UInt8) (s2 : List UInt8) (i3 : Int) : Option (V × List Ob) :=
 chk (catOk s1 [42]) (Option.bind (call 116 [(V.int .i64 i3)] []) fun z0 =>
 chk (catOk (s1 ++ [42]) (getS z0.1)) (Option.bind (call 104 [(V.lst 116 false l0), (V.str ((s1 ++ [42]) ++ (getS z0.1)))] []) fun z1 =>
 if (!(getB (headD (tail (getT z1.1)) V.bot))) = true then
 chk (catOk ((s1 ++ [42]) ++ (getS z0.1)) [42]) (Option.bind (call 104 [(V.lst 116 false l0), (V.str (((s1 ++ [42]) ++ (getS z0.1)) ++ [42]))] []) fun z2 =>
 if (!(getB (headD (tail (getT z2.1)) V.bot))) = true then
 some ((V.tup [(V.str s2), (V.bool (decide (i3 > (0 : Int))))]), [])
 else
 if (i3 == (0 : Int)) = true then
 Option.bind (call 106 [(V.str (getS (headD (getT z2.1) V.bot)))] []) fun z3 =>
 Option.bind (call 105 [(V.str (getS z3.1))] []) fun z4 =>
 chk (catOk s2 (getS z4.1)) ((ag0 (l0) (s1) ((s2 ++ (getS z4.1))) ((IntKind.wrap .i64 (i3 + (1 : Int))))))
 else
 Option.bind (call 105 [(V.str (getS (headD (getT z2.1) V.bot)))] []) fun z3 =>
 chk (catOk s2 (getS z3.1)) ((ag0 (l0) (s1) ((s2 ++ (getS z3.1))) ((IntKind.wrap .i64 (i3 + (1 : Int)))))))
 else
 chk (catOk s2 (getS (headD (getT z1.1) V.bot))) ((ag0 (l0) (s1) ((s2 ++ (getS (headD (getT z1.1) V.bot)))) ((IntKind.wrap .i64 (i3 + (1 : Int))))))))
def T107 (call : FuncId → Fun) (ag0 : List V → List UInt8 → List UInt8 → Int → Option (V × List Ob)) (a0 : List V) (a1 : List UInt8) : Option (V × List Ob) :=
 (ag0 (a0) (a1) ([]) ((0 : Int)))
def A107 (a0 : List V) (a1 : List UInt8) : List V := [V.lst 116 false a0, V.str a1]
def K107_0 (l0 : List V) (s1 : List UInt8) (s2 : List UInt8) (i3 : Int) : St := ⟨[(V.lst 116 false l0), (V.str s1), V.bot, V.bot, V.bot, V.bot, (V.str s2), (V.int IntKind.i64 i3)] ++ List.replicate 39 V.bot, []⟩
theorem S107_0 (l0 : List V) (s1 : List UInt8) (s2 : List UInt8) (i3 : Int) :
 RM 107 Tryd.f107 [] call icall again (tdOf Tryd.f107 0) (K107_0 l0 s1 s2 i3) = T107_0 call (fun l0 s1 s2 i3 => again (tdOf Tryd.f107 0) (K107_0 l0 s1 s2 i3)) l0 s1 s2 i3 := by kernel_rfl
theorem E107 (a0 : List V) (a1 : List UInt8) : GO 107 Tryd.f107 (A107 a0 a1) [] call icall again = T107 call (fun l0 s1 s2 i3 => again (tdOf Tryd.f107 0) (K107_0 l0 s1 s2 i3)) a0 a1 := by kernel_rfl
def L107 (call : FuncId → Fun) : Nat → (List V → List UInt8 → List UInt8 → Int → Option (V × List Ob))
 | 0 => fun _ _ _ _ => none
 | n + 1 => T107_0 call (L107 call n)
theorem R107 (call : FuncId → Fun) (icall : ICall (V × List Ob)) : ∀ n, (∀ (l0 : List V) (s1 : List UInt8) (s2 : List UInt8) (i3 : Int), RN 107 Tryd.f107 [] call icall n (tdOf Tryd.f107 0) (K107_0 l0 s1 s2 i3) = (L107 call n) l0 s1 s2 i3)
  | 0 => fun l0 s1 s2 i3 => rfl
  | n + 1 => by
    have ih := R107 call icall n
    exact fun l0 s1 s2 i3 => (S107_0 call icall (RN 107 Tryd.f107 [] call icall n) l0 s1 s2 i3).trans (by rw [show (fun l0 s1 s2 i3 => RN 107 Tryd.f107 [] call icall n (tdOf Tryd.f107 0) (K107_0 l0 s1 s2 i3)) = (L107 call n) from (funext fun l0 => funext fun s1 => funext fun s2 => funext fun i3 => ih l0 s1 s2 i3)]; rfl)
theorem C107 (k : Nat) (a0 : List V) (a1 : List UInt8) : callN cfg (k + 1) 107 (A107 a0 a1) [] = T107 (callN cfg k) (L107 (callN cfg k) k) a0 a1 := by
 have ih := R107 (callN cfg k) (icallN cfg (callN cfg k) 20) k
 refine (show callN cfg (k + 1) 107 (A107 a0 a1) [] = GO 107 Tryd.f107 (A107 a0 a1) [] (callN cfg k) (icallN cfg (callN cfg k) 20) (RN 107 Tryd.f107 [] (callN cfg k) (icallN cfg (callN cfg k) 20) k) by kernel_rfl).trans ((E107 _ _ _ a0 a1).trans ?_)
 rw [show (fun l0 s1 s2 i3 => RN 107 Tryd.f107 [] (callN cfg k) (icallN cfg (callN cfg k) 20) k (tdOf Tryd.f107 0) (K107_0 l0 s1 s2 i3)) = (L107 (callN cfg k) k) from (funext fun l0 => funext fun s1 => funext fun s2 => funext fun i3 => ih l0 s1 s2 i3)]
theorem M107 (a0 : List V) (a1 : List UInt8) {r : V × List Ob} (h : Evt (fun k n => T107 (callN cfg k) (L107 (callN cfg k) n) a0 a1) r) : Ret 107 [V.lst 116 false a0, V.str a1] [] r := ret_mk (g := fun k n => T107 (callN cfg k) (L107 (callN cfg k) n) a0 a1) (fun k => C107 k a0 a1) h
theorem N107_0 (l0 : List V) (s1 : List UInt8) (s2 : List UInt8) (i3 : Int) {r : V × List Ob} (h : Evt (fun k n => T107_0 (callN cfg k) (L107 (callN cfg k) n) l0 s1 s2 i3) r) : Evt (fun k n => (L107 (callN cfg k) n) l0 s1 s2 i3) r := evt_step (fun k n => rfl) h
def T111_0 (call : FuncId → Fun) (ag0 : Int → List UInt8 → Int → Option (V × List Ob)) (i0 : Int) (s1 : List UInt8) (p2 : Int) : Option (V × List Ob) :=
 if Int.toNat p2 < length s1 then
 if ((((Utf8.decode ⟨List.toArray s1⟩ (Int.toNat p2)).1 : Nat) : Int) == (IntKind.wrap IntKind.i32 i0)) = true then
 some ((V.bool true), [])
 else
 (ag0 (i0) (s1) (((Int.toNat p2 + (Utf8.decode ⟨List.toArray s1⟩ (Int.toNat p2)).2 : Nat) : Int)))
 else
 some ((V.bool false), [])
def T111 (call : FuncId → Fun) (ag0 : Int → List UInt8 → Int → Option (V × List Ob)) (a0 : List UInt8) (a1 : Int) : Option (V × List Ob) :=
 (ag0 (a1) (a0) ((0 : Int)))
def A111 (a0 : List UInt8) (a1 : Int) : List V := [V.str a0, V.int IntKind.u8 a1]
def K111_0 (i0 : Int) (s1 : List UInt8) (p2 : Int) : St := ⟨[V.bot, (V.int IntKind.u8 i0), V.bot, V.bot, V.bot, V.bot, V.bot, V.bot, (V.ref 0 0)] ++ List.replicate 7 V.bot, [(Ob.sit s1 p2)]⟩
theorem S111_0 (i0 : Int) (s1 : List UInt8) (p2 : Int) :
 RM 111 Tryd.f111 [] call icall again (tdOf Tryd.f111 0) (K111_0 i0 s1 p2) = T111_0 call (fun i0 s1 p2 => again (tdOf Tryd.f111 0) (K111_0 i0 s1 p2)) i0 s1 p2 := by kernel_rfl
theorem E111 (a0 : List UInt8) (a1 : Int) : GO 111 Tryd.f111 (A111 a0 a1) [] call icall again = T111 call (fun i0 s1 p2 => again (tdOf Tryd.f111 0) (K111_0 i0 s1 p2)) a0 a1 := by kernel_rfl
def L111 (call : FuncId → Fun) : Nat → (Int → List UInt8 → Int → Option (V × List Ob))
 | 0 => fun _ _ _ => none
 | n + 1 => T111_0 call (L111 call n)
theorem R111 (call : FuncId → Fun) (icall : ICall (V × List Ob)) : ∀ n, (∀ (i0 : Int) (s1 : List UInt8) (p2 : Int), RN 111 Tryd.f111 [] call icall n (tdOf Tryd.f111 0) (K111_0 i0 s1 p2) = (L111 call n) i0 s1 p2)
  | 0 => fun i0 s1 p2 => rfl
  | n + 1 => by
    have ih := R111 call icall n
    exact fun i0 s1 p2 => (S111_0 call icall (RN 111 Tryd.f111 [] call icall n) i0 s1 p2).trans (by rw [show (fun i0 s1 p2 => RN 111 Tryd.f111 [] call icall n (tdOf Tryd.f111 0) (K111_0 i0 s1 p2)) = (L111 call n) from (funext fun i0 => funext fun s1 => funext fun p2 => ih i0 s1 p2)]; rfl)
theorem C111 (k : Nat) (a0 : List UInt8) (a1 : Int) : callN cfg (k + 1) 111 (A111 a0 a1) [] = T111 (callN cfg k) (L111 (callN cfg k) k) a0 a1 := by
 have ih := R111 (callN cfg k) (icallN cfg (callN cfg k) 20) k
 refine (show callN cfg (k + 1) 111 (A111 a0 a1) [] = GO 111 Tryd.f111 (A111 a0 a1) [] (callN cfg k) (icallN cfg (callN cfg k) 20) (RN 111 Tryd.f111 [] (callN cfg k) (icallN cfg (callN cfg k) 20) k) by kernel_rfl).trans ((E111 _ _ _ a0 a1).trans ?_)
 rw [show (fun i0 s1 p2 => RN 111 Tryd.f111 [] (callN cfg k) (icallN cfg (callN cfg k) 20) k (tdOf Tryd.f111 0) (K111_0 i0 s1 p2)) = (L111 (callN cfg k) k) from (funext fun i0 => funext fun s1 => funext fun p2 => ih i0 s1 p2)]
theorem M111 (a0 : List UInt8) (a1 : Int) {r : V × List Ob} (h : Evt (fun k n => T111 (callN cfg k) (L111 (callN cfg k) n) a0 a1) r) : Ret 111 [V.str a0, V.int IntKind.u8 a1] [] r := ret_mk (g := fun k n => T111 (callN cfg k) (L111 (callN cfg k) n) a0 a1) (fun k => C111 k a0 a1) h
theorem N111_0 (i0 : Int) (s1 : List UInt8) (p2 : Int) {r : V × List Ob} (h : Evt (fun k n => T111_0 (callN cfg k) (L111 (callN cfg k) n) i0 s1 p2) r) : Evt (fun k n => (L111 (callN cfg k) n) i0 s1 p2) r := evt_step (fun k n => rfl) h
def T112_0 (call : FuncId → Fun) (ag0 : List V → Int → List UInt8 → Option (V × List Ob)) (l0 : List V) (i1 : Int) (s2 : List UInt8) : Option (V × List Ob) :=
 if (decide (i1 < ((length s2 : Nat) : Int))) = true then
 chk (decide (0 ≤ i1)) (chk (decide (i1 < ((length s2 : Nat) : Int))) (if (((UInt8.toNat (getD s2 (Int.toNat i1) 0) : Nat) : Int) == (34 : Int)) = true then
 chk (decide (0 ≤ (IntKind.wrap .i64 (i1 + (1 : Int))))) (chk (decide ((IntKind.wrap .i64 (i1 + (1 : Int))) ≤ ((length s2 : Nat) : Int))) (some ((V.tup [(V.str (bytesOf l0)), (V.bool true)]), [(Ob.cells [(V.str (drop (Int.toNat (IntKind.wrap .i64 (i1 + (1 : Int)))) s2))])])))
 else
 if (((UInt8.toNat (getD s2 (Int.toNat i1) 0) : Nat) : Int) == (92 : Int)) = true then
 if (decide ((IntKind.wrap .i64 (i1 + (1 : Int))) < ((length s2 : Nat) : Int))) = true then
 chk (decide (0 ≤ (IntKind.wrap .i64 (i1 + (1 : Int))))) (chk (decide ((IntKind.wrap .i64 (i1 + (1 : Int))) < ((length s2 : Nat) : Int))) (chk (appOk l0 [(V.int .u8 ((UInt8.toNat (getD s2 (Int.toNat (IntKind.wrap .i64 (i1 + (1 : Int)))) 0) : Nat) : Int))] 2) ((ag0 ((l0 ++ [(V.int .u8 ((UInt8.toNat (getD s2 (Int.toNat (IntKind.wrap .i64 (i1 + (1 : Int)))) 0) : Nat) : Int))])) ((IntKind.wrap .i64 ((IntKind.wrap .i64 (i1 + (1 : Int))) + (1 : Int)))) (s2)))))
 else
 (ag0 (l0) ((IntKind.wrap .i64 ((IntKind.wrap .i64 (i1 + (1 : Int))) + (1 : Int)))) (s2))
 else
 chk (appOk l0 [(V.int .u8 ((UInt8.toNat (getD s2 (Int.toNat i1) 0) : Nat) : Int))] 2) ((ag0 ((l0 ++ [(V.int .u8 ((UInt8.toNat (getD s2 (Int.toNat i1) 0) : Nat) : Int))])) ((IntKind.wrap .i64 (i1 + (1 : Int)))) (s2)))))
 else
 some ((V.tup [(V.str []), (V.bool false)]), [(Ob.cells [(V.str s2)])])
def T112 (call : FuncId → Fun) (ag0 : List V → Int → List UInt8 → Option (V × List Ob)) (a0 : List UInt8) : Option (V × List Ob) :=
 (ag0 ([]) ((1 : Int)) (a0))
def O112 (a0 : List UInt8) : List Ob := [Ob.cells [V.str a0]]
def A112 : List V := [V.agg [V.ref 0 0]]
def K112_0 (l0 : List V) (i1 : Int) (s2 : List UInt8) : St := ⟨[V.bot, (V.ref 1 0), V.bot, V.bot, (V.lst 5 true l0), (V.int IntKind.i64 i1)] ++ List.replicate 61 V.bot, [(Ob.cells [(V.str s2)]), (Ob.cells [(V.ref 0 0)])]⟩
theorem S112_0 (a0 : List UInt8) (l0 : List V) (i1 : Int) (s2 : List UInt8) :
 RM 112 Tryd.f112 (O112 a0) call icall again (tdOf Tryd.f112 0) (K112_0 l0 i1 s2) = T112_0 call (fun l0 i1 s2 => again (tdOf Tryd.f112 0) (K112_0 l0 i1 s2)) l0 i1 s2 := by kernel_rfl
theorem E112 (a0 : List UInt8) : GO 112 Tryd.f112 A112 (O112 a0) call icall again = T112 call (fun l0 i1 s2 => again (tdOf Tryd.f112 0) (K112_0 l0 i1 s2)) a0 := by kernel_rfl
def L112 (call : FuncId → Fun) : Nat → (List V → Int → List UInt8 → Option (V × List Ob))
 | 0 => fun _ _ _ => none
 | n + 1 => T112_0 call (L112 call n)
theorem R112 (call : FuncId → Fun) (icall : ICall (V × List Ob)) (a0 : List UInt8) : ∀ n, (∀ (l0 : List V) (i1 : Int) (s2 : List UInt8), RN 112 Tryd.f112 (O112 a0) call icall n (tdOf Tryd.f112 0) (K112_0 l0 i1 s2) = (L112 call n) l0 i1 s2)
  | 0 => fun l0 i1 s2 => rfl
  | n + 1 => by
    have ih := R112 call icall a0 n
    exact fun l0 i1 s2 => (S112_0 call icall (RN 112 Tryd.f112 (O112 a0) call icall n) a0 l0 i1 s2).trans (by rw [show (fun l0 i1 s2 => RN 112 Tryd.f112 (O112 a0) call icall n (tdOf Tryd.f112 0) (K112_0 l0 i1 s2)) = (L112 call n) from (funext fun l0 => funext fun i1 => funext fun s2 => ih l0 i1 s2)]; rfl)
theorem C112 (k : Nat) (a0 : List UInt8) : callN cfg (k + 1) 112 A112 (O112 a0) = T112 (callN cfg k) (L112 (callN cfg k) k) a0 := by
 have ih := R112 (callN cfg k) (icallN cfg (callN cfg k) 20) a0 k
 refine (show callN cfg (k + 1) 112 A112 (O112 a0) = GO 112 Tryd.f112 A112 (O112 a0) (callN cfg k) (icallN cfg (callN cfg k) 20) (RN 112 Tryd.f112 (O112 a0) (callN cfg k) (icallN cfg (callN cfg k) 20) k) by kernel_rfl).trans ((E112 _ _ _ a0).trans ?_)
 rw [show (fun l0 i1 s2 => RN 112 Tryd.f112 (O112 a0) (callN cfg k) (icallN cfg (callN cfg k) 20) k (tdOf Tryd.f112 0) (K112_0 l0 i1 s2)) = (L112 (callN cfg k) k) from (funext fun l0 => funext fun i1 => funext fun s2 => ih l0 i1 s2)]
theorem M112 (a0 : List UInt8) {r : V × List Ob} (h : Evt (fun k n => T112 (callN cfg k) (L112 (callN cfg k) n) a0) r) : Ret 112 [V.agg [V.ref 0 0]] [Ob.cells [V.str a0]] r := ret_mk (g := fun k n => T112 (callN cfg k) (L112 (callN cfg k) n) a0) (fun k => C112 k a0) h
theorem N112_0 (l0 : List V) (i1 : Int) (s2 : List UInt8) {r : V × List Ob} (h : Evt (fun k n => T112_0 (callN cfg k) (L112 (callN cfg k) n) l0 i1 s2) r) : Evt (fun k n => (L112 (callN cfg k) n) l0 i1 s2) r := evt_step (fun k n => rfl) h
def T114 (call : FuncId → Fun) (a0 : Int) : Option (V × List Ob) :=
 Option.bind (call 90 [(V.int .u8 a0)] []) fun z0 =>
 Option.bind (if (decide ((getI z0.1) ≥ (48 : Int))) = true then
 some (decide ((getI z0.1) ≤ (57 : Int)))
 else
 some false) fun y1 =>
 if y1 = true then
 some ((V.tup [(V.int .u8 (IntKind.wrap .u8 ((getI z0.1) - (48 : Int)))), (V.bool true)]), [])
 else
 Option.bind (if (decide ((getI z0.1) ≥ (97 : Int))) = true then
 some (decide ((getI z0.1) ≤ (102 : Int)))
 else
 some false) fun y2 =>
 if y2 = true then
 some ((V.tup [(V.int .u8 (IntKind.wrap .u8 ((IntKind.wrap .u8 ((getI z0.1) - (97 : Int))) + (10 : Int)))), (V.bool true)]), [])
 else
 some ((V.tup [(V.int .u8 0), (V.bool false)]), [])
def A114 (a0 : Int) : List V := [V.int IntKind.u8 a0]
theorem E114 (a0 : Int) : GO 114 Tryd.f114 (A114 a0) [] call icall again = T114 call a0 := by kernel_rfl
theorem C114 (k : Nat) (a0 : Int) : callN cfg (k + 1) 114 (A114 a0) [] = T114 (callN cfg k) a0 :=
 (show callN cfg (k + 1) 114 (A114 a0) [] = GO 114 Tryd.f114 (A114 a0) [] (callN cfg k) (icallN cfg (callN cfg k) 20) (RN 114 Tryd.f114 [] (callN cfg k) (icallN cfg (callN cfg k) 20) k) by kernel_rfl).trans (E114 _ _ _ a0)
theorem M114 (a0 : Int) {r : V × List Ob} (h : Evt (fun k n => T114 (callN cfg k) a0) r) : Ret 114 [V.int IntKind.u8 a0] [] r := ret_mk (g := fun k n => T114 (callN cfg k) a0) (fun k => C114 k a0) h
def T116_0 (call : FuncId → Fun) (ag0 : Int → List UInt8 → Bool → Option (V × List Ob)) (i0 : Int) (s1 : List UInt8) (b2 : Bool) : Option (V × List Ob) :=
 if (i0 != (0 : Int)) = true then
 chk ((10 : Int) != 0) (chk (catOk ((Utf8.encode (IntKind.wrap IntKind.i32 (IntKind.wrap .i64 ((48 : Int) + (if (IntKind.wrap .i64 ((0 : Int) - (Int.tmod i0 (10 : Int)))) > (Int.tmod i0 (10 : Int)) then (IntKind.wrap .i64 ((0 : Int) - (Int.tmod i0 (10 : Int)))) else (Int.tmod i0 (10 : Int))))))).data.toList) s1) (chk ((10 : Int) != 0) ((ag0 ((IntKind.wrap .i64 (Int.tdiv i0 (10 : Int)))) ((((Utf8.encode (IntKind.wrap IntKind.i32 (IntKind.wrap .i64 ((48 : Int) + (if (IntKind.wrap .i64 ((0 : Int) - (Int.tmod i0 (10 : Int)))) > (Int.tmod i0 (10 : Int)) then (IntKind.wrap .i64 ((0 : Int) - (Int.tmod i0 (10 : Int)))) else (Int.tmod i0 (10 : Int))))))).data.toList) ++ s1)) (b2)))))
 else
 if b2 = true then
 chk (catOk [45] s1) (some ((V.str ([45] ++ s1)), []))
 else
 some ((V.str s1), [])
def T116 (call : FuncId → Fun) (ag0 : Int → List UInt8 → Bool → Option (V × List Ob)) (a0 : Int) : Option (V × List Ob) :=
 if (a0 == (0 : Int)) = true then
 some ((V.str [48]), [])
 else
 (ag0 (a0) ([]) ((decide (a0 < (0 : Int)))))
def A116 (a0 : Int) : List V := [V.int IntKind.i64 a0]
def K116_0 (i0 : Int) (s1 : List UInt8) (b2 : Bool) : St := ⟨[(V.int IntKind.i64 i0), V.bot, V.bot, (V.str s1), (V.bool b2)] ++ List.replicate 24 V.bot, []⟩
theorem S116_0 (i0 : Int) (s1 : List UInt8) (b2 : Bool) :
 RM 116 Tryd.f116 [] call icall again (tdOf Tryd.f116 0) (K116_0 i0 s1 b2) = T116_0 call (fun i0 s1 b2 => again (tdOf Tryd.f116 0) (K116_0 i0 s1 b2)) i0 s1 b2 := by kernel_rfl
theorem E116 (a0 : Int) : GO 116 Tryd.f116 (A116 a0) [] call icall again = T116 call (fun i0 s1 b2 => again (tdOf Tryd.f116 0) (K116_0 i0 s1 b2)) a0 := by kernel_rfl
def L116 (call : FuncId → Fun) : Nat → (Int → List UInt8 → Bool → Option (V × List Ob))
 | 0 => fun _ _ _ => none
 | n + 1 => T116_0 call (L116 call n)
theorem R116 (call : FuncId → Fun) (icall : ICall (V × List Ob)) : ∀ n, (∀ (i0 : Int) (s1 : List UInt8) (b2 : Bool), RN 116 Tryd.f116 [] call icall n (tdOf Tryd.f116 0) (K116_0 i0 s1 b2) = (L116 call n) i0 s1 b2)
  | 0 => fun i0 s1 b2 => rfl
  | n + 1 => by
    have ih := R116 call icall n
    exact fun i0 s1 b2 => (S116_0 call icall (RN 116 Tryd.f116 [] call icall n) i0 s1 b2).trans (by rw [show (fun i0 s1 b2 => RN 116 Tryd.f116 [] call icall n (tdOf Tryd.f116 0) (K116_0 i0 s1 b2)) = (L116 call n) from (funext fun i0 => funext fun s1 => funext fun b2 => ih i0 s1 b2)]; rfl)
theorem C116 (k : Nat) (a0 : Int) : callN cfg (k + 1) 116 (A116 a0) [] = T116 (callN cfg k) (L116 (callN cfg k) k) a0 := by
 have ih := R116 (callN cfg k) (icallN cfg (callN cfg k) 20) k
 refine (show callN cfg (k + 1) 116 (A116 a0) [] = GO 116 Tryd.f116 (A116 a0) [] (callN cfg k) (icallN cfg (callN cfg k) 20) (RN 116 Tryd.f116 [] (callN cfg k) (icallN cfg (callN cfg k) 20) k) by kernel_rfl).trans ((E116 _ _ _ a0).trans ?_)
 rw [show (fun i0 s1 b2 => RN 116 Tryd.f116 [] (callN cfg k) (icallN cfg (callN cfg k) 20) k (tdOf Tryd.f116 0) (K116_0 i0 s1 b2)) = (L116 (callN cfg k) k) from (funext fun i0 => funext fun s1 => funext fun b2 => ih i0 s1 b2)]
theorem M116 (a0 : Int) {r : V × List Ob} (h : Evt (fun k n => T116 (callN cfg k) (L116 (callN cfg k) n) a0) r) : Ret 116 [V.int IntKind.i64 a0] [] r := ret_mk (g := fun k n => T116 (callN cfg k) (L116 (callN cfg k) n) a0) (fun k => C116 k a0) h
theorem N116_0 (i0 : Int) (s1 : List UInt8) (b2 : Bool) {r : V × List Ob} (h : Evt (fun k n => T116_0 (callN cfg k) (L116 (callN cfg k) n) i0 s1 b2) r) : Evt (fun k n => (L116 (callN cfg k) n) i0 s1 b2) r := evt_step (fun k n => rfl) h
def T87_0 (call : FuncId → Fun) (ag0 : List UInt8 → Option (V × List Ob)) (ag1 : List UInt8 → Option (V × List Ob)) (s0 : List UInt8) : Option (V × List Ob) :=
 if (decide (((length s0 : Nat) : Int) > (0 : Int))) = true then
 chk (decide (0 ≤ (0 : Int))) (chk (decide ((0 : Int) < ((length s0 : Nat) : Int))) (Option.bind (call 78 [(V.int .u8 ((UInt8.toNat (getD s0 (Int.toNat (0 : Int)) 0) : Nat) : Int))] []) fun z0 =>
 if (getB z0.1) = true then
 chk (decide (0 ≤ (1 : Int))) (chk (decide ((1 : Int) ≤ ((length s0 : Nat) : Int))) ((ag0 ((drop (Int.toNat (1 : Int)) s0)))))
 else
 (ag1 (s0))))
 else
 (ag1 (s0))
def T87_1 (call : FuncId → Fun) (ag0 : List UInt8 → Option (V × List Ob)) (ag1 : List UInt8 → Option (V × List Ob)) (s0 : List UInt8) : Option (V × List Ob) :=
 if (decide (((length s0 : Nat) : Int) > (0 : Int))) = true then
 chk (decide (0 ≤ (IntKind.wrap .i64 (((length s0 : Nat) : Int) - (1 : Int))))) (chk (decide ((IntKind.wrap .i64 (((length s0 : Nat) : Int) - (1 : Int))) < ((length s0 : Nat) : Int))) (Option.bind (call 78 [(V.int .u8 ((UInt8.toNat (getD s0 (Int.toNat (IntKind.wrap .i64 (((length s0 : Nat) : Int) - (1 : Int)))) 0) : Nat) : Int))] []) fun z0 =>
 if (getB z0.1) = true then
 chk (decide (0 ≤ (IntKind.wrap .i64 (((length s0 : Nat) : Int) - (1 : Int))))) (chk (decide ((IntKind.wrap .i64 (((length s0 : Nat) : Int) - (1 : Int))) ≤ ((length s0 : Nat) : Int))) (chk (decide (0 ≤ (0 : Int))) (chk (decide ((0 : Int) ≤ (IntKind.wrap .i64 (((length s0 : Nat) : Int) - (1 : Int))))) ((ag1 ((drop (Int.toNat (0 : Int)) (take (Int.toNat (IntKind.wrap .i64 (((length s0 : Nat) : Int) - (1 : Int)))) s0))))))))
 else
 some ((V.str s0), [])))
 else
 some ((V.str s0), [])
def T87 (call : FuncId → Fun) (ag0 : List UInt8 → Option (V × List Ob)) (ag1 : List UInt8 → Option (V × List Ob)) (a0 : List UInt8) : Option (V × List Ob) :=
 (ag0 (a0))
def A87 (a0 : List UInt8) : List V := [V.str a0]
def K87_0 (s0 : List UInt8) : St := ⟨[(V.str s0)] ++ List.replicate 29 V.bot, []⟩
def K87_1 (s0 : List UInt8) : St := ⟨[(V.str s0)] ++ List.replicate 29 V.bot, []⟩
theorem S87_0 (s0 : List UInt8) :
 RM 87 Tryd.f87 [] call icall again (tdOf Tryd.f87 0) (K87_0 s0) = T87_0 call (fun s0 => again (tdOf Tryd.f87 0) (K87_0 s0)) (fun s0 => again (tdOf Tryd.f87 1) (K87_1 s0)) s0 := by kernel_rfl
theorem S87_1 (s0 : List UInt8) :
 RM 87 Tryd.f87 [] call icall again (tdOf Tryd.f87 1) (K87_1 s0) = T87_1 call (fun s0 => again (tdOf Tryd.f87 0) (K87_0 s0)) (fun s0 => again (tdOf Tryd.f87 1) (K87_1 s0)) s0 := by kernel_rfl
theorem E87 (a0 : List UInt8) : GO 87 Tryd.f87 (A87 a0) [] call icall again = T87 call (fun s0 => again (tdOf Tryd.f87 0) (K87_0 s0)) (fun s0 => again (tdOf Tryd.f87 1) (K87_1 s0)) a0 := by kernel_rfl
def L87 (call : FuncId → Fun) : Nat → (List UInt8 → Option (V × List Ob)) × (List UInt8 → Option (V × List Ob))
 | 0 => ⟨fun _ => none, fun _ => none⟩
 | n + 1 => ⟨T87_0 call (L87 call n).1 (L87 call n).2, T87_1 call (L87 call n).1 (L87 call n).2⟩
theorem R87 (call : FuncId → Fun) (icall : ICall (V × List Ob)) : ∀ n, (∀ (s0 : List UInt8), RN 87 Tryd.f87 [] call icall n (tdOf Tryd.f87 0) (K87_0 s0) = (L87 call n).1 s0) ∧ (∀ (s0 : List UInt8), RN 87 Tryd.f87 [] call icall n (tdOf Tryd.f87 1) (K87_1 s0) = (L87 call n).2 s0)
  | 0 => ⟨fun s0 => rfl, fun s0 => rfl⟩
  | n + 1 => by
    have ih := R87 call icall n
    exact ⟨fun s0 => (S87_0 call icall (RN 87 Tryd.f87 [] call icall n) s0).trans (by rw [show (fun s0 => RN 87 Tryd.f87 [] call icall n (tdOf Tryd.f87 0) (K87_0 s0)) = (L87 call n).1 from (funext fun s0 => ih.1 s0), show (fun s0 => RN 87 Tryd.f87 [] call icall n (tdOf Tryd.f87 1) (K87_1 s0)) = (L87 call n).2 from (funext fun s0 => ih.2 s0)]; rfl),
      fun s0 => (S87_1 call icall (RN 87 Tryd.f87 [] call icall n) s0).trans (by rw [show (fun s0 => RN 87 Tryd.f87 [] call icall n (tdOf Tryd.f87 0) (K87_0 s0)) = (L87 call n).1 from (funext fun s0 => ih.1 s0), show (fun s0 => RN 87 Tryd.f87 [] call icall n (tdOf Tryd.f87 1) (K87_1 s0)) = (L87 call n).2 from (funext fun s0 => ih.2 s0)]; rfl)⟩
theorem C87 (k : Nat) (a0 : List UInt8) : callN cfg (k + 1) 87 (A87 a0) [] = T87 (callN cfg k) (L87 (callN cfg k) k).1 (L87 (callN cfg k) k).2 a0 := by
 have ih := R87 (callN cfg k) (icallN cfg (callN cfg k) 20) k
 refine (show callN cfg (k + 1) 87 (A87 a0) [] = GO 87 Tryd.f87 (A87 a0) [] (callN cfg k) (icallN cfg (callN cfg k) 20) (RN 87 Tryd.f87 [] (callN cfg k) (icallN cfg (callN cfg k) 20) k) by kernel_rfl).trans ((E87 _ _ _ a0).trans ?_)
 rw [show (fun s0 => RN 87 Tryd.f87 [] (callN cfg k) (icallN cfg (callN cfg k) 20) k (tdOf Tryd.f87 0) (K87_0 s0)) = (L87 (callN cfg k) k).1 from (funext fun s0 => ih.1 s0), show (fun s0 => RN 87 Tryd.f87 [] (callN cfg k) (icallN cfg (callN cfg k) 20) k (tdOf Tryd.f87 1) (K87_1 s0)) = (L87 (callN cfg k) k).2 from (funext fun s0 => ih.2 s0)]
theorem M87 (a0 : List UInt8) {r : V × List Ob} (h : Evt (fun k n => T87 (callN cfg k) (L87 (callN cfg k) n).1 (L87 (callN cfg k) n).2 a0) r) : Ret 87 [V.str a0] [] r := ret_mk (g := fun k n => T87 (callN cfg k) (L87 (callN cfg k) n).1 (L87 (callN cfg k) n).2 a0) (fun k => C87 k a0) h
theorem N87_0 (s0 : List UInt8) {r : V × List Ob} (h : Evt (fun k n => T87_0 (callN cfg k) (L87 (callN cfg k) n).1 (L87 (callN cfg k) n).2 s0) r) : Evt (fun k n => (L87 (callN cfg k) n).1 s0) r := evt_step (fun k n => rfl) h
theorem N87_1 (s0 : List UInt8) {r : V × List Ob} (h : Evt (fun k n => T87_1 (callN cfg k) (L87 (callN cfg k) n).1 (L87 (callN cfg k) n).2 s0) r) : Evt (fun k n => (L87 (callN cfg k) n).2 s0) r := evt_step (fun k n => rfl) h
end Go.Proofs.YtemgbdncidgoiaaDoor
end
section
namespace Go.Proofs.YtemgbdncidgoiaaDoor
open Go.Ev Go
def specials : Bs := [40, 41, 60, 62, 64, 44, 59, 58, 92, 34, 47, 91, 93, 63, 61]
def tokB (c : UInt8) : Bool := 33 ≤ c && c ≤ 126 && !specials.contains c
def blankB (c : UInt8) : Bool := c == 32 || c == 9
theorem intB_inj (a b : UInt8) : (((a.toNat : Nat) : Int) == ((b.toNat : Nat) : Int)) = (a == b) := by
  by_cases h : a = b
  · subst h; simp
  · have : a.toNat ≠ b.toNat := fun e => h (UInt8.toNat_inj.1 e)
    have h1 : (a == b) = false := by simpa using h
    rw [h1]; simp; omega
theorem intB_lit (a : UInt8) (n : Nat) (h : n < 256) : (((a.toNat : Nat) : Int) == (n : Int)) = (a == UInt8.ofNat n) := by
  have : (UInt8.ofNat n).toNat = n := by simp; omega
  have := intB_inj a (UInt8.ofNat n)
  rwa [‹(UInt8.ofNat n).toNat = n›] at this
theorem intB_le (a b : UInt8) : (((a.toNat : Nat) : Int) ≤ ((b.toNat : Nat) : Int)) ↔ a ≤ b := by
  rw [UInt8.le_iff_toNat_le]; omega
theorem ret99 (s : Bs) (i : Nat) : Ret 99 [.ref 0 0, .int .i64 i] [.cells [.str s]] (.int .u8 ((s.getD i 0).toNat : Nat), [.cells [.str s]]) := by
  refine M99 s i ?_
  simp only [T99]
  by_cases h : i < s.length
  · have h1 : ¬ ((i : Int) ≥ (s.length : Int)) := by omega
    have h2 : (i : Int) < (s.length : Int) := by omega
    have h3 : (0 : Int) ≤ (i : Int) := by omega
    simp only [h1, decide_false, Bool.false_eq_true, if_false, chk_p h2, chk_p h3, Int.toNat_natCast]
    exact evt_some _
  · have h1 : ((i : Int) ≥ (s.length : Int)) := by omega
    have h4 : s.getD i 0 = 0 := by simp [List.getD, List.getElem?_eq_none (by omega : s.length ≤ i)]
    simp only [h1, decide_true, if_true, h4]
    exact evt_some _
theorem ret78 (c : UInt8) : Ret 78 [.int .u8 (c.toNat : Nat)] [] (.bool (blankB c), []) := by
  refine M78 (c.toNat : Nat) ?_
  have h32 : (((c.toNat : Nat) : Int) == (32 : Int)) = (c == 32) := intB_lit c 32 (by omega)
  have h9 : (((c.toNat : Nat) : Int) == (9 : Int)) = (c == 9) := intB_lit c 9 (by omega)
  simp only [T78, h32, h9, blankB]
  cases h : (c == 32)
  · simp only [if_true, bind_s, Bool.false_or]; exact evt_some _
  · simp only [Bool.true_eq_false, if_false, bind_s, Bool.true_or]; exact evt_some _
theorem decode_plain (s : Bs) (i : Nat) (h : i < s.length) (hb : s[i] < 128) : Utf8.decode ⟨s.toArray⟩ i = (s[i].toNat, 1) := by
  have e : (ByteArray.get! ⟨s.toArray⟩ (i + 0)).toNat = s[i].toNat := by simp [ByteArray.get!, h]
  have hlt : s[i].toNat < 0x80 := by have := UInt8.lt_iff_toNat_lt.1 hb; simpa using this
  unfold Utf8.decode
  simp only [e, hlt, if_true]
theorem loop111 (c : UInt8) (s : Bs) (hs : ∀ b ∈ s, b < 128) : ∀ (n i : Nat), s.length - i = n → i ≤ s.length →
    Evt (fun k n => L111 (callN cfg k) n (c.toNat : Nat) s (i : Nat)) (.bool ((s.drop i).contains c), [])
  | 0, i, h, hi => by
    refine N111_0 (c.toNat : Nat) s (i : Nat) ?_
    have h1 : ¬ (i < s.length) := by omega
    have h2 : s.drop i = [] := List.drop_eq_nil_of_le (by omega)
    simp only [T111_0, Int.toNat_natCast, h1, if_false, h2, List.contains_nil]
    exact evt_some _
  | n + 1, i, h, hi => by
    refine N111_0 (c.toNat : Nat) s (i : Nat) ?_
    have h1 : i < s.length := by omega
    have hd := decode_plain s i h1 (hs _ (List.getElem_mem h1))
    have hw : IntKind.wrap .i32 ((c.toNat : Nat) : Int) = ((c.toNat : Nat) : Int) := by
      rw [IntKind.wrap_i32]; have := c.toNat_lt; omega
    simp only [T111_0, Int.toNat_natCast, h1, if_true, hd, hw, intB_inj]
    rw [drop_at h1]
    cases he : (s[i] == c)
    · have hx : (s[i] :: s.drop (i + 1)).contains c = (s.drop (i + 1)).contains c := by
        have : (c == s[i]) = false := by rw [BEq.comm]; exact he
        rw [List.contains_cons, this]; simp
      simp only [Bool.false_eq_true, if_false, hx]
      exact loop111 c s hs n (i + 1) (by omega) (by omega)
    · have hx : (s[i] :: s.drop (i + 1)).contains c = true := by
        have : (c == s[i]) = true := by rw [BEq.comm]; exact he
        rw [List.contains_cons, this]; simp
      simp only [if_true, hx]
      exact evt_some _
theorem ret111 (c : UInt8) (s : Bs) (hs : ∀ b ∈ s, b < 128) : Ret 111 [.str s, .int .u8 (c.toNat : Nat)] [] (.bool (s.contains c), []) := by
  refine M111 s (c.toNat : Nat) ?_
  simp only [T111]
  exact loop111 c s hs _ 0 rfl (by omega)
theorem ret101 (c : UInt8) : Ret 101 [.int .u8 (c.toNat : Nat)] [] (.bool (tokB c), []) := by
  refine M101 (c.toNat : Nat) ?_
  simp only [T101, tokB]
  by_cases h1 : 33 ≤ c
  · have g1 : ((c.toNat : Nat) : Int) ≥ 33 := (intB_le 33 c).2 h1
    by_cases h2 : c ≤ 126
    · have g2 : ((c.toNat : Nat) : Int) ≤ 126 := (intB_le c 126).2 h2
      simp only [g1, g2, h1, h2, decide_true, if_true, Bool.true_and]
      refine evt_bind (ret111 c specials (by decide)) ?_
      exact evt_some _
    · have g2 : ¬ ((c.toNat : Nat) : Int) ≤ 126 := fun e => h2 ((intB_le c 126).1 e)
      simp only [g1, g2, h1, h2, decide_true, decide_false, if_true, Bool.false_eq_true, if_false, Bool.true_and, Bool.false_and]
      exact evt_some _
  · have g1 : ¬ ((c.toNat : Nat) : Int) ≥ 33 := fun e => h1 ((intB_le 33 c).1 e)
    simp only [g1, h1, decide_false, Bool.false_eq_true, if_false, Bool.false_and]
    exact evt_some _
theorem ret65 (s : Bs) (hs : s.length < 4294967281) : Ret 65 [.str s] [] (.str (s.map low8), []) :=
  ret_hand (h := foldF) rfl (by simp [foldF, hs])
theorem ret62 (a b : Bs) (ha : a.length < 4294967281) (hb : b.length < 4294967281) : Ret 62 [.str a, .str b] [] (.bool (a.map low8 == b.map low8), []) := by
  refine M62 a b ?_
  simp only [T62]
  refine evt_bind (ret65 a ha) (evt_bind (ret65 b hb) ?_)
  exact evt_some _
def tokF (s : Bs) : Bs × Bs := (s.takeWhile tokB, s.dropWhile tokB)
theorem loop81 (s : Bs) (hs : s.length ≤ 1000000) : ∀ (n i : Nat), s.length - i = n → i ≤ s.length → (∀ j (h : j < s.length), j < i → tokB s[j] = true) →
    Evt (fun k n => L81 (callN cfg k) n (i : Nat) s) (.str (tokF s).1, [.cells [.str (tokF s).2]]) := by
  have fin : ∀ i : Nat, i ≤ s.length → (∀ j (h : j < s.length), j < i → tokB s[j] = true) → (∀ h : i < s.length, tokB s[i] = false) → (tokF s).1 = s.take i ∧ (tokF s).2 = s.drop i := by
    intro i hi h1 h2
    have e : s = s.take i ++ s.drop i := (List.take_append_drop i s).symm
    have h3 : ∀ b ∈ s.take i, tokB b = true := by
      intro b hb
      obtain ⟨j, hj, rfl⟩ := List.getElem_of_mem hb
      have hj' : j < i ∧ j < s.length := by rw [List.length_take] at hj; omega
      rw [List.getElem_take]
      exact h1 j hj'.2 hj'.1
    have h4 : (s.drop i).takeWhile tokB = [] ∧ (s.drop i).dropWhile tokB = s.drop i := by
      by_cases hlt : i < s.length
      · rw [drop_at hlt, List.takeWhile_cons_of_neg (by simp [h2 hlt]), List.dropWhile_cons_of_neg (by simp [h2 hlt])]; exact ⟨rfl, rfl⟩
      · rw [List.drop_eq_nil_of_le (by omega)]; simp
    unfold tokF
    constructor
    · show s.takeWhile tokB = _
      conv => lhs; rw [e]
      rw [List.takeWhile_append_of_pos h3, h4.1, List.append_nil]
    · show s.dropWhile tokB = _
      conv => lhs; rw [e]
      rw [List.dropWhile_append_of_pos h3, h4.2]
  intro n
  induction n with
  | zero =>
    intro i h hi hb
    refine N81_0 (i : Nat) s ?_
    have h1 : ¬ ((i : Int) < (s.length : Int)) := by omega
    have h2 : (0 : Int) ≤ (i : Int) := by omega
    have h3 : ((i : Int) ≤ (s.length : Int)) := by omega
    obtain ⟨e1, e2⟩ := fin i hi hb (fun h => by omega)
    simp only [T81_0, h1, decide_false, Bool.false_eq_true, if_false, chk_p h2, chk_p h3, chk_p (Int.le_refl 0), Int.toNat_natCast, e1, e2]
    exact evt_some _
  | succ n ih =>
    intro i h hi hb
    refine N81_0 (i : Nat) s ?_
    have hlt : i < s.length := by omega
    have h1 : ((i : Int) < (s.length : Int)) := by omega
    have h2 : (0 : Int) ≤ (i : Int) := by omega
    have h3 : ((i : Int) ≤ (s.length : Int)) := by omega
    have hw : IntKind.wrap .i64 ((i : Int) + 1) = ((i + 1 : Nat) : Int) := by rw [wrap64 (by omega) (by omega)]; omega
    simp only [T81_0, h1, decide_true, if_true, chk_p h2, chk_p h3, chk_t, chk_p (Int.le_refl 0), Int.toNat_natCast, getD_at hlt]
    refine evt_bind (ret101 s[i]) ?_
    simp only [V.getB, hw]
    cases ht : tokB s[i]
    · obtain ⟨e1, e2⟩ := fin i hi hb (fun _ => ht)
      simp only [Bool.false_eq_true, if_false, e1, e2]
      exact evt_some _
    · simp only [if_true]
      refine ih (i + 1) (by omega) (by omega) fun j hj hji => ?_
      by_cases e : j = i
      · subst e; exact ht
      · exact hb j hj (by omega)
theorem ret81 (s : Bs) (hs : s.length ≤ 1000000) : Ret 81 [.agg [.ref 0 0]] [.cells [.str s]] (.str (tokF s).1, [.cells [.str (tokF s).2]]) := by
  refine M81 s ?_
  simp only [T81]
  exact loop81 s hs _ 0 rfl (by omega) (fun j h hj => by omega)
end Go.Proofs.YtemgbdncidgoiaaDoor
end
section
namespace Go.Proofs.YtemgbdncidgoiaaDoor
open Go.Ev Go
def cmtR : Int → Bs → Bs
  | _, [] => []
  | _, [_] => []
  | d, c :: x :: r =>
    if c = 92 then cmtR d r
    else if c = 40 then cmtR (IntKind.wrap .i64 (d + 1)) (x :: r)
    else if c = 41 then (if IntKind.wrap .i64 (d - 1) = 0 then x :: r else cmtR (IntKind.wrap .i64 (d - 1)) (x :: r))
    else cmtR d (x :: r)
theorem cmtR_cons (d : Int) (c : UInt8) (r : Bs) : cmtR d (c :: r) =
    if c = 92 then cmtR d (r.drop 1) else if c = 40 then cmtR (IntKind.wrap .i64 (d + 1)) r
    else if c = 41 then (if IntKind.wrap .i64 (d - 1) = 0 then r else cmtR (IntKind.wrap .i64 (d - 1)) r) else cmtR d r := by
  cases r with
  | nil => simp [cmtR]
  | cons x r => rw [cmtR]; rfl
theorem cmtR_length : ∀ (n : Nat) (d : Int) (s : Bs), s.length ≤ n → (cmtR d s).length ≤ s.length - 1
  | _, _, [], _ => by simp [cmtR]
  | 0, _, c :: r, h => by simp at h
  | n + 1, d, c :: r, h => by
    simp at h
    rw [cmtR_cons]
    have h1 := cmtR_length n d (r.drop 1) (by simp; omega)
    have h2 := cmtR_length n (IntKind.wrap .i64 (d + 1)) r h
    have h3 := cmtR_length n (IntKind.wrap .i64 (d - 1)) r h
    have h4 := cmtR_length n d r h
    simp at h1 h2 h3 h4 ⊢
    split
    · omega
    · split
      · omega
      · split
        · split <;> omega
        · omega
theorem loop100 (s : Bs) (hs : s.length ≤ 1000000) : ∀ (n i : Nat) (d : Int), s.length - i ≤ n →
    ∃ m : Nat, m ≤ s.length ∧ s.drop m = cmtR d (s.drop i) ∧ Evt (fun k n => L100 (callN cfg k) n d (i : Nat) s) (.int .i64 (m : Nat), [.cells [.str s]]) := by
  have out : ∀ (i : Nat) (d : Int), s.length ≤ i → ∃ m : Nat, m ≤ s.length ∧ s.drop m = cmtR d (s.drop i) ∧ Evt (fun k n => L100 (callN cfg k) n d (i : Nat) s) (.int .i64 (m : Nat), [.cells [.str s]]) := by
    intro i d h
    refine ⟨s.length, Nat.le_refl _, ?_, ?_⟩
    · rw [List.drop_eq_nil_of_le h, List.drop_eq_nil_of_le (Nat.le_refl _)]; rfl
    · refine N100_0 d (i : Nat) s ?_
      have h1 : ¬ ((i : Int) < (s.length : Int)) := by omega
      simp only [T100_0, h1, decide_false, Bool.false_eq_true, if_false]
      exact evt_some _
  intro n
  induction n with
  | zero => intro i d h; exact out i d (by omega)
  | succ n ih =>
    intro i d h
    by_cases hlt : i < s.length
    · have h1 : ((i : Int) < (s.length : Int)) := by omega
      have h2 : (0 : Int) ≤ (i : Int) := by omega
      have hw : IntKind.wrap .i64 ((i : Int) + 1) = ((i + 1 : Nat) : Int) := by rw [wrap64 (by omega) (by omega)]; omega
      have hw2 : IntKind.wrap .i64 (((i + 1 : Nat) : Int) + 1) = ((i + 2 : Nat) : Int) := by rw [wrap64 (by omega) (by omega)]; omega
      have e92 : (((s[i].toNat : Nat) : Int) == (92 : Int)) = (s[i] == 92) := intB_lit s[i] 92 (by omega)
      have e40 : (((s[i].toNat : Nat) : Int) == (40 : Int)) = (s[i] == 40) := intB_lit s[i] 40 (by omega)
      have e41 : (((s[i].toNat : Nat) : Int) == (41 : Int)) = (s[i] == 41) := intB_lit s[i] 41 (by omega)
      rw [drop_at hlt, cmtR_cons]
      have step : ∀ r, Evt (fun k n => T100_0 (callN cfg k) (L100 (callN cfg k) n) d (i : Nat) s) r → Evt (fun k n => L100 (callN cfg k) n d (i : Nat) s) r := fun r hr => N100_0 d (i : Nat) s hr
      by_cases c92 : s[i] = 92
      · obtain ⟨m, g1, g2, g3⟩ := ih (i + 2) d (by omega)
        refine ⟨m, g1, ?_, step _ ?_⟩
        · rw [if_pos c92, g2, List.drop_drop]
        · simp only [T100_0, h1, decide_true, if_true, chk_p h2, chk_t, Int.toNat_natCast, getD_at hlt, e92, c92, beq_self_eq_true, hw, hw2]
          exact g3
      · by_cases c40 : s[i] = 40
        · obtain ⟨m, g1, g2, g3⟩ := ih (i + 1) (IntKind.wrap .i64 (d + 1)) (by omega)
          refine ⟨m, g1, ?_, step _ ?_⟩
          · rw [if_neg c92, if_pos c40, g2]
          · have b92 : (s[i] == 92) = false := by simpa using c92
            simp only [T100_0, h1, decide_true, if_true, chk_p h2, chk_t, Int.toNat_natCast, getD_at hlt, e92, b92, e40, c40, beq_self_eq_true, Bool.false_eq_true, if_false, hw]
            exact g3
        · have b92 : (s[i] == 92) = false := by simpa using c92
          have b40 : (s[i] == 40) = false := by simpa using c40
          by_cases c41 : s[i] = 41
          · by_cases hd : IntKind.wrap .i64 (d - 1) = 0
            · refine ⟨i + 1, by omega, ?_, step _ ?_⟩
              · rw [if_neg c92, if_neg c40, if_pos c41, if_pos hd]
              · simp only [T100_0, h1, decide_true, if_true, chk_p h2, chk_t, Int.toNat_natCast, getD_at hlt, e92, b92, e40, b40, e41, c41, hd, beq_self_eq_true, Bool.false_eq_true, if_false, hw]
                exact evt_some _
            · obtain ⟨m, g1, g2, g3⟩ := ih (i + 1) (IntKind.wrap .i64 (d - 1)) (by omega)
              refine ⟨m, g1, ?_, step _ ?_⟩
              · rw [if_neg c92, if_neg c40, if_pos c41, if_neg hd, g2]
              · have hb : (IntKind.wrap .i64 (d - 1) == 0) = false := by simpa using hd
                simp only [T100_0, h1, decide_true, if_true, chk_p h2, chk_t, Int.toNat_natCast, getD_at hlt, e92, b92, e40, b40, e41, c41, hb, beq_self_eq_true, Bool.false_eq_true, if_false, hw]
                exact g3
          · obtain ⟨m, g1, g2, g3⟩ := ih (i + 1) d (by omega)
            refine ⟨m, g1, ?_, step _ ?_⟩
            · rw [if_neg c92, if_neg c40, if_neg c41, g2]
            · have b41 : (s[i] == 41) = false := by simpa using c41
              simp only [T100_0, h1, decide_true, if_true, chk_p h2, chk_t, Int.toNat_natCast, getD_at hlt, e92, b92, e40, b40, e41, b41, beq_self_eq_true, Bool.false_eq_true, if_false, hw]
              exact g3
    · exact out i d (by omega)
theorem ret100 (s : Bs) (hs : s.length ≤ 1000000) : ∃ m : Nat, m ≤ s.length ∧ s.drop m = cmtR 0 s ∧ Ret 100 [.agg [.ref 0 0]] [.cells [.str s]] (.int .i64 (m : Nat), [.cells [.str s]]) := by
  obtain ⟨m, g1, g2, g3⟩ := loop100 s hs s.length 0 0 (by omega)
  refine ⟨m, g1, by simpa using g2, M100 s ?_⟩
  simp only [T100]
  exact g3
def skipF (s : Bs) : Bs :=
  match s with
  | [] => []
  | c :: r => if blankB c then skipF r else if c = 40 then skipF (cmtR 0 (c :: r)) else c :: r
termination_by s.length
decreasing_by
  · simp
  · have := cmtR_length _ 0 (c :: r) (Nat.le_refl _); simp at this ⊢; omega
theorem skipF_cons (c : UInt8) (r : Bs) : skipF (c :: r) = if blankB c then skipF r else if c = 40 then skipF (cmtR 0 (c :: r)) else c :: r := by rw [skipF]
theorem skipF_nil : skipF [] = [] := by rw [skipF]
theorem skipF_length : ∀ (n : Nat) (s : Bs), s.length ≤ n → (skipF s).length ≤ s.length
  | _, [], _ => by simp [skipF_nil]
  | 0, c :: r, h => by simp at h
  | n + 1, c :: r, h => by
    rw [skipF_cons]
    have h0 := cmtR_length _ 0 (c :: r) (Nat.le_refl _)
    simp at h h0 ⊢
    split
    · have := skipF_length n r (by omega); omega
    · split
      · have := skipF_length n (cmtR 0 (c :: r)) (by omega); omega
      · simp
theorem skipF_le (s : Bs) : (skipF s).length ≤ s.length := skipF_length _ s (Nat.le_refl _)
theorem loop80 : ∀ (n : Nat) (s : Bs), s.length ≤ n → s.length ≤ 1000000 → Evt (fun k n => L80 (callN cfg k) n s) (.tup [], [.cells [.str (skipF s)]])
  | _, [], _, _ => by
    refine N80_0 [] ?_
    simp only [T80_0, skipF_nil, List.length_nil]
    exact evt_some _
  | 0, c :: r, h, _ => by simp at h
  | n + 1, c :: r, h, hs => by
    refine N80_0 (c :: r) ?_
    have h1 : (((c :: r).length : Nat) : Int) > 0 := by rw [List.length_cons]; omega
    have h2 : (1 : Int) ≤ (((c :: r).length : Nat) : Int) := by rw [List.length_cons]; omega
    simp only [T80_0, h1, decide_true, if_true]
    refine evt_bind (ret99 (c :: r) 0) ?_
    simp only [V.getI, List.getD_cons_zero]
    refine evt_bind (ret78 c) ?_
    have e40 : (((c.toNat : Nat) : Int) == (40 : Int)) = (c == 40) := intB_lit c 40 (by omega)
    simp only [V.getB, e40]
    rw [skipF_cons]
    cases hb : blankB c
    · simp only [Bool.false_eq_true, if_false]
      by_cases hc : c = 40
      · simp only [hc, beq_self_eq_true, if_true]
        obtain ⟨m, g1, g2, g3⟩ := ret100 (40 :: r) (by subst hc; exact hs)
        refine evt_bind g3 ?_
        have h3 : (0 : Int) ≤ (m : Int) := by omega
        have h4 : (m : Int) ≤ (((40 :: r : Bs).length : Nat) : Int) := by omega
        simp only [V.getI, chk_p h3, chk_p h4, Int.toNat_natCast]
        rw [g2]
        have := cmtR_length _ 0 (40 :: r) (Nat.le_refl _)
        simp at this h hs
        exact loop80 n _ (by omega) (by omega)
      · have hc' : (c == 40) = false := by simpa using hc
        simp only [hc', hc, Bool.false_eq_true, if_false]
        exact evt_some _
    · simp only [if_true, chk_p h2, chk_p (show (0 : Int) ≤ 1 by omega)]
      simp at h hs
      exact loop80 n r (by omega) (by omega)
theorem ret80 (s : Bs) (hs : s.length ≤ 1000000) : Ret 80 [.agg [.ref 0 0]] [.cells [.str s]] (.tup [], [.cells [.str (skipF s)]]) := by
  refine M80 s ?_
  simp only [T80]
  exact loop80 _ s (Nat.le_refl _) hs
def byteF (c : UInt8) (s : Bs) : Option Bs :=
  match skipF s with
  | [] => none
  | x :: r => if x = c then some (skipF r) else none
theorem byteF_le {c : UInt8} {s r : Bs} (h : byteF c s = some r) : r.length < s.length := by
  unfold byteF at h
  have h0 := skipF_le s
  split at h
  · cases h
  · rename_i x r' he
    split at h
    · cases h
      have := skipF_le r'
      rw [he] at h0; simp at h0; omega
    · cases h
def byteR (c : UInt8) (s : Bs) : Bs := match byteF c s with | some r => r | none => skipF s
theorem ret82 (s : Bs) (hs : s.length ≤ 1000000) (c : UInt8) (hc : c ≠ 0) : Ret 82 [.agg [.ref 0 0], .int .u8 (c.toNat : Nat)] [.cells [.str s]] (.bool (byteF c s).isSome, [.cells [.str (byteR c s)]]) := by
  refine M82 s (c.toNat : Nat) ?_
  simp only [T82]
  refine evt_bind (ret80 s hs) ?_
  simp only [List.headD_cons, Ob.getC, V.getS]
  refine evt_bind (ret99 (skipF s) 0) ?_
  simp only [V.getI]
  have h0 := skipF_le s
  unfold byteR byteF
  cases he : skipF s with
  | nil =>
    have hb : ((((([] : Bs).getD 0 0).toNat : Nat) : Int) != ((c.toNat : Nat) : Int)) = true := by
      have : c.toNat ≠ 0 := fun e => hc (UInt8.toNat_inj.1 e)
      simp; omega
    simp only [hb, if_true]
    exact evt_some _
  | cons x r =>
    rw [he] at h0; simp at h0
    have hb : (((((x :: r : Bs).getD 0 0).toNat : Nat) : Int) != ((c.toNat : Nat) : Int)) = !(x == c) := by
      rw [List.getD_cons_zero, bne, intB_inj]
    simp only [hb]
    by_cases hx : x = c
    · have h2 : (1 : Int) ≤ (((x :: r : Bs).length : Nat) : Int) := by rw [List.length_cons]; omega
      simp only [hx, beq_self_eq_true, Bool.not_true, Bool.false_eq_true, if_false, if_true]
      rw [hx] at h2
      simp only [chk_p h2, chk_p (show (0 : Int) ≤ 1 by omega)]
      refine evt_bind (ret80 r (by omega)) ?_
      exact evt_some _
    · have hx' : (x == c) = false := by simpa using hx
      simp only [hx', hx, Bool.not_false, if_true, if_false]
      exact evt_some _
end Go.Proofs.YtemgbdncidgoiaaDoor
end
section
namespace Go.Proofs.YtemgbdncidgoiaaDoor
open Go.Ev Go
def quoF : Bs → Option (Bs × Bs)
  | [] => none
  | [c] => if c = 34 then some ([], []) else none
  | c :: x :: r => if c = 34 then some ([], x :: r) else if c = 92 then (quoF r).map fun p => (x :: p.1, p.2) else (quoF (x :: r)).map fun p => (c :: p.1, p.2)
theorem quoF_cons (c : UInt8) (r : Bs) : quoF (c :: r) =
    if c = 34 then some ([], r) else if c = 92 then (match r with | [] => none | x :: r' => (quoF r').map fun p => (x :: p.1, p.2)) else (quoF r).map fun p => (c :: p.1, p.2) := by
  cases r with
  | nil =>
    rw [quoF, quoF]
    by_cases h : c = 34
    · simp [h]
    · simp [h]
  | cons x r => rw [quoF]
theorem quoF_le : ∀ (n : Nat) (s t r : Bs), s.length ≤ n → quoF s = some (t, r) → t.length + r.length < s.length
  | _, [], t, r, _, h => by simp [quoF] at h
  | 0, c :: s, t, r, h, _ => by simp at h
  | n + 1, c :: s, t, r, h, hq => by
    rw [quoF_cons] at hq
    simp at h
    split at hq
    · cases hq; simp
    · split at hq
      · cases s with
        | nil => cases hq
        | cons x s =>
          simp at hq h
          obtain ⟨a, hp, rfl⟩ := hq
          have := quoF_le n s a r (by omega) hp
          simp; omega
      · simp at hq
        obtain ⟨a, hp, rfl⟩ := hq
        have := quoF_le n s a r (by omega) hp
        simp; omega
theorem loop112 (s : Bs) (hs : s.length ≤ 1000000) : ∀ (n i : Nat) (out : Bs), s.length - i ≤ n → out.length ≤ i →
    ∃ rest, Evt (fun k n => L112 (callN cfg k) n (ofBytes out) (i : Nat) s) (match quoF (s.drop i) with
      | some (t, r) => (.tup [.str (out ++ t), .bool true], [.cells [.str r]])
      | none => (.tup [.str [], .bool false], [.cells [.str rest]])) := by
  have fin : ∀ (i : Nat) (out : Bs), s.length ≤ i → ∃ rest, Evt (fun k n => L112 (callN cfg k) n (ofBytes out) (i : Nat) s) (match quoF (s.drop i) with
      | some (t, r) => (.tup [.str (out ++ t), .bool true], [.cells [.str r]])
      | none => (.tup [.str [], .bool false], [.cells [.str rest]])) := by
    intro i out h
    rw [List.drop_eq_nil_of_le h]
    refine ⟨s, N112_0 (ofBytes out) (i : Nat) s ?_⟩
    have h1 : ¬ ((i : Int) < (s.length : Int)) := by omega
    simp only [T112_0, h1, decide_false, Bool.false_eq_true, if_false, quoF]
    exact evt_some _
  intro n
  induction n with
  | zero => intro i out h _; exact fin i out (by omega)
  | succ n ih =>
    intro i out h ho
    by_cases hlt : i < s.length
    · have h1 : ((i : Int) < (s.length : Int)) := by omega
      have h2 : (0 : Int) ≤ (i : Int) := by omega
      have hw : IntKind.wrap .i64 ((i : Int) + 1) = ((i + 1 : Nat) : Int) := by rw [wrap64 (by omega) (by omega)]; omega
      have hw2 : IntKind.wrap .i64 (((i + 1 : Nat) : Int) + 1) = ((i + 2 : Nat) : Int) := by rw [wrap64 (by omega) (by omega)]; omega
      have h3 : (0 : Int) ≤ ((i + 1 : Nat) : Int) := by omega
      have h4 : ((i + 1 : Nat) : Int) ≤ (s.length : Int) := by omega
      have e34 : (((s[i].toNat : Nat) : Int) == (34 : Int)) = (s[i] == 34) := intB_lit s[i] 34 (by omega)
      have e92 : (((s[i].toNat : Nat) : Int) == (92 : Int)) = (s[i] == 92) := intB_lit s[i] 92 (by omega)
      rw [drop_at hlt, quoF_cons]
      by_cases c34 : s[i] = 34
      · refine ⟨[], N112_0 (ofBytes out) (i : Nat) s ?_⟩
        simp only [T112_0, h1, decide_true, if_true, chk_p h2, chk_t, Int.toNat_natCast, getD_at hlt, e34, c34, beq_self_eq_true, hw, chk_p h3, chk_p h4, bytesOf_ofBytes, List.append_nil]
        exact evt_some _
      · have b34 : (s[i] == 34) = false := by simpa using c34
        by_cases c92 : s[i] = 92
        · by_cases hlt2 : i + 1 < s.length
          · have h5 : ((i + 1 : Nat) : Int) < (s.length : Int) := by omega
            have hap : appOk (ofBytes out) [V.int IntKind.u8 ((s[i+1].toNat : Nat) : Int)] 2 = true := app_ok (by simp [ofBytes_length]; omega)
            obtain ⟨rest, g⟩ := ih (i + 2) (out ++ [s[i+1]]) (by omega) (by simp; omega)
            refine ⟨rest, N112_0 (ofBytes out) (i : Nat) s ?_⟩
            have g34 : ¬ ((92 : UInt8) = 34) := by decide
            rw [if_neg (by rw [c92]; exact g34), if_pos c92, drop_at hlt2]
            simp only [T112_0, h1, decide_true, if_true, chk_p h2, chk_t, Int.toNat_natCast, getD_at hlt, e34, b34, Bool.false_eq_true, if_false, e92, c92, beq_self_eq_true, hw, h5, chk_p h3, getD_at hlt2, chk_b hap, hw2, ofBytes_snoc]
            cases hq : quoF (s.drop (i + 2)) with
            | none => rw [hq] at g; simpa [hq] using g
            | some p => rw [hq] at g; simpa [hq] using g
          · have h5 : ¬ (((i + 1 : Nat) : Int) < (s.length : Int)) := by omega
            obtain ⟨rest, g⟩ := fin (i + 2) out (by omega)
            refine ⟨rest, N112_0 (ofBytes out) (i : Nat) s ?_⟩
            have g34 : ¬ ((92 : UInt8) = 34) := by decide
            rw [if_neg (by rw [c92]; exact g34), if_pos c92, List.drop_eq_nil_of_le (by omega : s.length ≤ i + 1)]
            rw [List.drop_eq_nil_of_le (by omega : s.length ≤ i + 2)] at g
            simp only [T112_0, h1, decide_true, decide_false, if_true, chk_p h2, chk_t, Int.toNat_natCast, getD_at hlt, e34, b34, Bool.false_eq_true, if_false, e92, c92, beq_self_eq_true, hw, h5, hw2]
            exact g
        · have b92 : (s[i] == 92) = false := by simpa using c92
          have hap : appOk (ofBytes out) [V.int IntKind.u8 ((s[i].toNat : Nat) : Int)] 2 = true := app_ok (by simp [ofBytes_length]; omega)
          obtain ⟨rest, g⟩ := ih (i + 1) (out ++ [s[i]]) (by omega) (by simp; omega)
          refine ⟨rest, N112_0 (ofBytes out) (i : Nat) s ?_⟩
          rw [if_neg c34, if_neg c92]
          simp only [T112_0, h1, decide_true, if_true, chk_p h2, chk_t, Int.toNat_natCast, getD_at hlt, e34, b34, Bool.false_eq_true, if_false, e92, b92, hw, chk_b hap, ofBytes_snoc]
          cases hq : quoF (s.drop (i + 1)) with
          | none => rw [hq] at g; simpa [hq] using g
          | some p => rw [hq] at g; simpa [hq] using g
    · exact fin i out (by omega)
theorem ret112 (s : Bs) (hs : s.length ≤ 1000000) : ∃ rest, Ret 112 [.agg [.ref 0 0]] [.cells [.str s]] (match quoF (s.drop 1) with
      | some (t, r) => (.tup [.str t, .bool true], [.cells [.str r]])
      | none => (.tup [.str [], .bool false], [.cells [.str rest]])) := by
  obtain ⟨rest, g⟩ := loop112 s hs s.length 1 [] (by omega) (by simp)
  refine ⟨rest, M112 s ?_⟩
  simp only [T112]
  exact g
def valF (s : Bs) : Option (Bs × Bs) :=
  if s.head? = some 34 then quoF (s.drop 1) else if (tokF s).1 = [] then none else some (tokF s)
theorem tokF_le (s : Bs) : (tokF s).1.length + (tokF s).2.length = s.length := by
  have := List.takeWhile_append_dropWhile (p := tokB) (l := s)
  have h := congrArg List.length this
  rw [List.length_append] at h
  exact h
theorem valF_le {s t r : Bs} (h : valF s = some (t, r)) : t.length + r.length ≤ s.length := by
  unfold valF at h
  split at h
  · have := quoF_le _ _ t r (Nat.le_refl _) h
    simp at this; omega
  · split at h
    · cases h
    · have := tokF_le s
      have e : tokF s = (t, r) := by injection h
      rw [e] at this; exact Nat.le_of_eq this
theorem ret102 (s : Bs) (hs : s.length ≤ 1000000) : ∃ rest, Ret 102 [.agg [.ref 0 0]] [.cells [.str s]] (match valF s with
      | some (t, r) => (.tup [.str t, .bool true], [.cells [.str r]])
      | none => (.tup [.str [], .bool false], [.cells [.str rest]])) := by
  have e34 : ((((s.getD 0 0).toNat : Nat) : Int) == (34 : Int)) = (s.head? == some 34) := by
    rw [show (34 : Int) = ((34 : Nat) : Int) from rfl, intB_lit _ 34 (by omega)]
    cases s with
    | nil => decide
    | cons c r => simp
  by_cases h : s.head? = some 34
  · obtain ⟨rest, g⟩ := ret112 s hs
    refine ⟨rest, M102 s ?_⟩
    simp only [T102]
    refine evt_bind (ret99 s 0) ?_
    simp only [V.getI, e34, h, beq_self_eq_true, if_true]
    refine evt_bind g ?_
    unfold valF
    rw [if_pos h]
    cases quoF (s.drop 1) with
    | none => exact evt_some _
    | some p => exact evt_some _
  · refine ⟨(tokF s).2, M102 s ?_⟩
    have hb : (s.head? == some 34) = false := by simpa using h
    simp only [T102]
    refine evt_bind (ret99 s 0) ?_
    simp only [V.getI, e34, hb, Bool.false_eq_true, if_false]
    refine evt_bind (ret81 s hs) ?_
    unfold valF
    rw [if_neg h]
    simp only [V.getS, List.headD_cons, Ob.getC, sEq]
    by_cases ht : (tokF s).1 = []
    · rw [if_pos ht, ht]
      exact evt_some _
    · rw [if_neg ht]
      have : ((tokF s).1 == []) = false := by simpa using ht
      rw [this]
      exact evt_some _
abbrev Ps := List (Bs × Bs)
def pV (p : Bs × Bs) : V := .agg [.str p.1, .str p.2]
def pairsF (s : Bs) : Ps :=
  match h1 : byteF 59 s with
  | none => []
  | some s1 =>
    if (tokF s1).1 = [] then []
    else match h2 : byteF 61 (tokF s1).2 with
      | none => []
      | some s3 => match h3 : valF s3 with
        | none => []
        | some (v, s4) => ((tokF s1).1.map low8, v) :: pairsF s4
termination_by s.length
decreasing_by
  have g1 := byteF_le h1
  have g2 := tokF_le s1
  have g3 := byteF_le h2
  have g4 := valF_le h3
  omega
theorem pairsF_eq (s : Bs) : pairsF s = match byteF 59 s with
    | none => []
    | some s1 => if (tokF s1).1 = [] then [] else match byteF 61 (tokF s1).2 with
      | none => []
      | some s3 => match valF s3 with
        | none => []
        | some (v, s4) => ((tokF s1).1.map low8, v) :: pairsF s4 := by
  rw [pairsF]
  split
  · rename_i h1; simp only [h1]
  · rename_i s1 h1
    simp only [h1]
    split
    · rfl
    · split
      · rename_i h2; simp only [h2]
      · rename_i s3 h2
        simp only [h2]
        split
        · rename_i h3; simp only [h3]
        · rename_i v s4 h3; simp only [h3]
theorem ret83_aux : ∀ (n : Nat) (s : Bs) (l : Ps), s.length ≤ n → s.length ≤ 1000000 → l.length + s.length ≤ 1000000 →
    ∃ rest, Evt (fun k n => L83 (callN cfg k) n (l.map pV) s) (.lst 116 false ((l ++ pairsF s).map pV), [.cells [.str rest]]) := by
  intro n
  induction n with
  | zero =>
    intro s l h hs hl
    have : s = [] := List.eq_nil_of_length_eq_zero (by omega)
    subst this
    have hb : byteF 59 [] = none := by simp [byteF, skipF_nil]
    refine ⟨skipF [], N83_0 (l.map pV) [] ?_⟩
    simp only [T83_0]
    refine evt_bind (ret82 [] hs 59 (by decide)) ?_
    rw [pairsF_eq]
    simp only [hb, byteR, Option.isSome_none, V.getB, Bool.false_eq_true, if_false, List.append_nil, List.headD_cons, Ob.getC, V.getS]
    exact evt_some _
  | succ n ih =>
    intro s l h hs hl
    rw [pairsF_eq]
    cases h1 : byteF 59 s with
    | none =>
      refine ⟨skipF s, N83_0 (l.map pV) s ?_⟩
      simp only [T83_0]
      refine evt_bind (ret82 s hs 59 (by decide)) ?_
      simp only [h1, byteR, Option.isSome_none, V.getB, Bool.false_eq_true, if_false, List.append_nil, List.headD_cons, Ob.getC, V.getS]
      exact evt_some _
    | some s1 =>
      have g1 := byteF_le h1
      have g2 := tokF_le s1
      have hsl : s1.length ≤ 1000000 := by omega
      have hln : ((tokF s1).1.map low8 = []) ↔ (tokF s1).1 = [] := List.map_eq_nil_iff
      have start : ∀ {r : V × List Ob}, Evt (fun k n =>
          if sEq ((tokF s1).1.map low8) [] = false then
            Option.bind (callN cfg k 82 [(V.agg [(V.ref 0 0)]), (V.int IntKind.u8 (61 : Int))] [(Ob.cells [(V.str (tokF s1).2)])]) fun p3 =>
            if (!(V.getB p3.1)) = true then
              some ((V.lst 116 false (l.map pV)), [(Ob.cells [(V.str (V.getS (List.headD (Ob.getC (List.headD p3.2 Ob.dead)) V.bot)))])])
            else
              Option.bind (callN cfg k 102 [(V.agg [(V.ref 0 0)])] [(Ob.cells [(V.str (V.getS (List.headD (Ob.getC (List.headD p3.2 Ob.dead)) V.bot)))])]) fun p4 =>
              if (!(V.getB (List.headD (List.tail (V.getT p4.1)) V.bot))) = true then
                some ((V.lst 116 false (l.map pV)), [(Ob.cells [(V.str (V.getS (List.headD (Ob.getC (List.headD p4.2 Ob.dead)) V.bot)))])])
              else
                chk (appOk (l.map pV) [(V.agg [(V.str ((tokF s1).1.map low8)), (V.str (V.getS (List.headD (V.getT p4.1) V.bot)))])] 33) (L83 (callN cfg k) n ((l.map pV ++ [(V.agg [(V.str ((tokF s1).1.map low8)), (V.str (V.getS (List.headD (V.getT p4.1) V.bot)))])])) ((V.getS (List.headD (Ob.getC (List.headD p4.2 Ob.dead)) V.bot))))
          else
            some ((V.lst 116 false (l.map pV)), [(Ob.cells [(V.str (tokF s1).2)])])) r → Evt (fun k n => L83 (callN cfg k) n (l.map pV) s) r := by
        intro r hr
        refine N83_0 (l.map pV) s ?_
        simp only [T83_0]
        refine evt_bind (ret82 s hs 59 (by decide)) ?_
        simp only [h1, byteR, Option.isSome_some, V.getB, if_true, List.headD_cons, Ob.getC, V.getS]
        refine evt_bind (ret81 s1 hsl) ?_
        simp only [V.getS, List.headD_cons, Ob.getC]
        refine evt_bind (ret65 _ (by omega)) ?_
        exact hr
      by_cases ht : (tokF s1).1 = []
      · refine ⟨(tokF s1).2, start ?_⟩
        have hse : sEq ((tokF s1).1.map low8) [] = true := by simp [sEq, ht]
        simp only [ht, if_true, List.append_nil]
        rw [ht] at hse
        simp only [hse, Bool.true_eq_false, if_false]
        exact evt_some _
      · have hse : sEq ((tokF s1).1.map low8) [] = false := by simp [sEq, ht]
        have h19 := ret82 (tokF s1).2 (by omega) 61 (by decide)
        simp only [ht, if_false]
        cases h2 : byteF 61 (tokF s1).2 with
        | none =>
          refine ⟨skipF (tokF s1).2, start ?_⟩
          simp only [hse, if_true]
          refine evt_bind h19 ?_
          simp only [h2, byteR, Option.isSome_none, V.getB, Bool.not_false, if_true, List.append_nil, List.headD_cons, Ob.getC, V.getS]
          exact evt_some _
        | some s3 =>
          have g3 := byteF_le h2
          obtain ⟨rest, h35⟩ := ret102 s3 (by omega)
          cases h3 : valF s3 with
          | none =>
            refine ⟨rest, start ?_⟩
            simp only [hse, if_true]
            refine evt_bind h19 ?_
            simp only [h2, byteR, Option.isSome_some, V.getB, Bool.not_true, Bool.false_eq_true, if_false, List.headD_cons, Ob.getC, V.getS]
            refine evt_bind h35 ?_
            simp only [h3, V.getT, List.tail_cons, List.headD_cons, V.getB, Bool.not_false, if_true, List.append_nil, Ob.getC, V.getS]
            exact evt_some _
          | some p =>
            obtain ⟨v, s4⟩ := p
            have g4 := valF_le h3
            obtain ⟨rest', hrec⟩ := ih s4 (l ++ [((tokF s1).1.map low8, v)]) (by omega) (by omega) (by simp; omega)
            refine ⟨rest', start ?_⟩
            simp only [hse, if_true]
            refine evt_bind h19 ?_
            simp only [h2, byteR, Option.isSome_some, V.getB, Bool.not_true, Bool.false_eq_true, if_false, List.headD_cons, Ob.getC, V.getS]
            refine evt_bind h35 ?_
            have hap : appOk (l.map pV) [V.agg [V.str ((tokF s1).1.map low8), V.str v]] 33 = true := app_ok (by simp; omega)
            simp only [h3, V.getT, List.tail_cons, List.headD_cons, V.getB, Bool.not_true, Bool.false_eq_true, if_false, Ob.getC, V.getS, chk_b hap]
            have e : (l ++ [((tokF s1).1.map low8, v)]).map pV = l.map pV ++ [V.agg [V.str ((tokF s1).1.map low8), V.str v]] := by simp [pV]
            rw [e] at hrec
            simpa using hrec
theorem ret83 (s : Bs) (hs : s.length ≤ 1000000) : ∃ rest, Ret 83 [.agg [.ref 0 0]] [.cells [.str s]] (.lst 116 false ((pairsF s).map pV), [.cells [.str rest]]) := by
  obtain ⟨rest, g⟩ := ret83_aux s.length s [] (Nat.le_refl _) hs (by simpa using hs)
  refine ⟨rest, M83 s ?_⟩
  simp only [T83]
  exact g
end Go.Proofs.YtemgbdncidgoiaaDoor
end
section
namespace Go.Proofs.YtemgbdncidgoiaaDoor
open Go.Ev Go
def findF : Ps → Bs → Option Bs
  | [], _ => none
  | p :: r, name => if p.1 = name then some p.2 else findF r name
theorem getD_pV {l : Ps} {i : Nat} (h : i < l.length) (pv : Bs × Bs → V) : (l.map pv).getD i .bot = pv l[i] := by simp [List.getD, h]
theorem loop104 (name : Bs) (l : Ps) (hl : l.length ≤ 1000000) : ∀ (n i : Nat), l.length - i ≤ n →
    Evt (fun k n => L104 (callN cfg k) n name (l.map pV) (l.length : Nat) (i : Nat)) (.tup [.str ((findF (l.drop i) name).getD []), .bool (findF (l.drop i) name).isSome], []) := by
  have fin : ∀ i : Nat, l.length ≤ i → Evt (fun k n => L104 (callN cfg k) n name (l.map pV) (l.length : Nat) (i : Nat)) (.tup [.str ((findF (l.drop i) name).getD []), .bool (findF (l.drop i) name).isSome], []) := by
    intro i h
    refine N104_0 name (l.map pV) (l.length : Nat) (i : Nat) ?_
    have h1 : ¬ ((i : Int) < (l.length : Int)) := by omega
    rw [List.drop_eq_nil_of_le h]
    simp only [T104_0, h1, decide_false, Bool.false_eq_true, if_false, findF]
    exact evt_some _
  intro n
  induction n with
  | zero => intro i h; exact fin i (by omega)
  | succ n ih =>
    intro i h
    by_cases hlt : i < l.length
    · refine N104_0 name (l.map pV) (l.length : Nat) (i : Nat) ?_
      have h1 : ((i : Int) < (l.length : Int)) := by omega
      have h2 : (0 : Int) ≤ (i : Int) := by omega
      have hw : IntKind.wrap .i64 ((i : Int) + 1) = ((i + 1 : Nat) : Int) := by rw [wrap64 (by omega) (by omega)]; omega
      have hd : l.drop i = l[i] :: l.drop (i + 1) := List.drop_eq_getElem_cons hlt
      rw [hd, findF]
      simp only [T104_0, h1, decide_true, if_true, chk_p h2, List.length_map, chk_t, Int.toNat_natCast, getD_pV hlt, pV, V.cells, List.headD_cons, List.tail_cons, V.getS, sEq, hw]
      by_cases hn : l[i].1 = name
      · simp only [hn, beq_self_eq_true, if_true]
        exact evt_some _
      · have : (l[i].1 == name) = false := by simpa using hn
        simp only [this, Bool.false_eq_true, if_false, hn]
        exact ih (i + 1) (by omega)
    · exact fin i (by omega)
theorem ret104 (l : Ps) (hl : l.length ≤ 1000000) (name : Bs) : Ret 104 [.lst 116 false (l.map pV), .str name] [] (.tup [.str ((findF l name).getD []), .bool (findF l name).isSome], []) := by
  refine M104 (l.map pV) name ?_
  simp only [T104, List.length_map]
  exact loop104 name l hl l.length 0 (by omega)
theorem low8_int (c : UInt8) : (((low8 c).toNat : Nat) : Int) = lowI (c.toNat : Nat) := by
  have h := lowI_range (c := (c.toNat : Nat)) ⟨by omega, by have := c.toNat_lt; omega⟩
  unfold low8
  simp only [UInt8.toNat_ofNat']
  omega
theorem ret90 (c : UInt8) : Ret 90 [.int .u8 (c.toNat : Nat)] [] (.int .u8 ((low8 c).toNat : Nat), []) := by
  refine M90 (c.toNat : Nat) ?_
  rw [low8_int]
  have hc := c.toNat_lt
  unfold lowI
  simp only [T90]
  by_cases h1 : (65 : Int) ≤ (c.toNat : Int)
  · by_cases h2 : (c.toNat : Int) ≤ 90
    · have hw : IntKind.wrap .u8 (IntKind.wrap .u8 ((c.toNat : Int) - 65) + 97) = (c.toNat : Int) + 32 := by
        rw [wrap8 (by omega) (by omega : (c.toNat : Int) - 65 < 256), wrap8 (by omega) (by omega)]; omega
      simp only [ge_iff_le, h1, h2, decide_true, if_true, bind_s, and_self, hw]
      exact evt_some _
    · simp only [ge_iff_le, h1, h2, decide_true, decide_false, if_true, bind_s, and_false, if_false, Bool.false_eq_true]
      exact evt_some _
  · simp only [ge_iff_le, h1, decide_false, bind_s, false_and, if_false, Bool.false_eq_true]
    exact evt_some _
def hexN (c : UInt8) : Option Nat :=
  if 48 ≤ (low8 c).toNat ∧ (low8 c).toNat ≤ 57 then some ((low8 c).toNat - 48) else if 97 ≤ (low8 c).toNat ∧ (low8 c).toNat ≤ 102 then some ((low8 c).toNat - 87) else none
theorem hexN_lt {c : UInt8} {n : Nat} (h : hexN c = some n) : n < 16 := by
  unfold hexN at h
  split at h
  · cases h; omega
  · split at h
    · cases h; omega
    · cases h
theorem ret114 (c : UInt8) : Ret 114 [.int .u8 (c.toNat : Nat)] [] (.tup [.int .u8 (((hexN c).getD 0 : Nat) : Int), .bool (hexN c).isSome], []) := by
  refine M114 (c.toNat : Nat) ?_
  simp only [T114]
  refine evt_bind (ret90 c) ?_
  unfold hexN
  generalize hd : (low8 c).toNat = d
  show Evt (fun _ _ => Option.bind (if decide ((d : Int) ≥ 48) = true then some (decide ((d : Int) ≤ 57)) else some false) fun b1 => if b1 = true then some (V.tup [V.int .u8 (IntKind.wrap .u8 ((d : Int) - 48)), V.bool true], []) else
    Option.bind (if decide ((d : Int) ≥ 97) = true then some (decide ((d : Int) ≤ 102)) else some false) fun b2 => if b2 = true then some (V.tup [V.int .u8 (IntKind.wrap .u8 (IntKind.wrap .u8 ((d : Int) - 97) + 10)), V.bool true], []) else
      some (V.tup [V.int .u8 0, V.bool false], [])) _
  simp only [ge_iff_le]
  by_cases h1 : 48 ≤ d ∧ d ≤ 57
  · have g1 : (48 : Int) ≤ (d : Int) := by omega
    have g2 : (d : Int) ≤ 57 := by omega
    have hw : IntKind.wrap .u8 ((d : Int) - 48) = ((d - 48 : Nat) : Int) := by rw [wrap8 (by omega) (by omega)]; omega
    simp only [g1, g2, decide_true, if_true, bind_s, hw, h1, and_self, Option.getD_some, Option.isSome_some]
    exact evt_some _
  · rw [if_neg h1]
    have hb : (if decide ((48 : Int) ≤ (d : Int)) = true then some (decide ((d : Int) ≤ 57)) else some false) = some false := by
      by_cases a : 48 ≤ d
      · have b : ¬ (d : Int) ≤ 57 := by omega
        simp [b]
      · have b : ¬ (48 : Int) ≤ (d : Int) := by omega
        simp [b]
    simp only [hb, bind_s, Bool.false_eq_true, if_false]
    by_cases h2 : 97 ≤ d ∧ d ≤ 102
    · have g1 : (97 : Int) ≤ (d : Int) := by omega
      have g2 : (d : Int) ≤ 102 := by omega
      have hw : IntKind.wrap .u8 (IntKind.wrap .u8 ((d : Int) - 97) + 10) = ((d - 87 : Nat) : Int) := by rw [wrap8 (by omega) (by omega : (d : Int) - 97 < 256), wrap8 (by omega) (by omega)]; omega
      simp only [g1, g2, decide_true, if_true, bind_s, hw, h2, and_self, Option.getD_some, Option.isSome_some]
      exact evt_some _
    · rw [if_neg h2]
      have hb : (if decide ((97 : Int) ≤ (d : Int)) = true then some (decide ((d : Int) ≤ 102)) else some false) = some false := by
        by_cases a : 97 ≤ d
        · have b : ¬ (d : Int) ≤ 102 := by omega
          simp [b]
        · have b : ¬ (97 : Int) ≤ (d : Int) := by omega
          simp [b]
      simp only [hb, bind_s, Bool.false_eq_true, if_false]
      exact evt_some _
def openF : Bs → Bs
  | [] => []
  | [c] => [c]
  | [c, a] => [c, a]
  | c :: a :: b :: r => if c = 37 then (match hexN a, hexN b with
      | some x, some y => UInt8.ofNat (16 * x + y) :: openF r
      | _, _ => c :: openF (a :: b :: r)) else c :: openF (a :: b :: r)
theorem openF_plain (c : UInt8) (r : Bs) (h : c ≠ 37 ∨ r.length < 2) : openF (c :: r) = c :: openF r := by
  match r, h with
  | [], _ => rfl
  | [a], _ => rfl
  | a :: b :: r, h =>
    have : c ≠ 37 := by rcases h with h | h; exact h; simp at h; omega
    rw [openF, if_neg this]
theorem openF_length : ∀ (n : Nat) (s : Bs), s.length ≤ n → (openF s).length ≤ s.length
  | _, [], _ => by simp [openF]
  | _, [c], _ => by simp [openF]
  | _, [c, a], _ => by simp [openF]
  | 0, c :: a :: b :: r, h => by simp at h
  | n + 1, c :: a :: b :: r, h => by
    simp at h
    have h1 := openF_length n r (by omega)
    have h2 := openF_length n (a :: b :: r) (by simp; omega)
    simp at h2
    rw [openF]
    split
    · split <;> simp <;> omega
    · simp; omega
theorem openF_le (s : Bs) : (openF s).length ≤ s.length := openF_length _ s (Nat.le_refl _)
theorem or16 : ∀ x y : Fin 16, bits .or .u8 (IntKind.wrap .u8 (((x.val : Nat) : Int) * 2 ^ min (Int.toNat 4) (IntKind.bits .u8))) ((y.val : Nat) : Int) = ((((UInt8.ofNat (16 * x.val + y.val)).toNat : Nat)) : Int) := by decide +kernel
theorem loop105 (s : Bs) (hs : s.length ≤ 1000000) : ∀ (n i : Nat) (out : Bs), s.length - i ≤ n → out.length ≤ i → i ≤ s.length →
    Evt (fun k n => L105 (callN cfg k) n s (ofBytes out) (i : Nat)) (.str (out ++ openF (s.drop i)), []) := by
  have fin : ∀ (i : Nat) (out : Bs), s.length ≤ i → Evt (fun k n => L105 (callN cfg k) n s (ofBytes out) (i : Nat)) (.str (out ++ openF (s.drop i)), []) := by
    intro i out h
    refine N105_0 s (ofBytes out) (i : Nat) ?_
    have h1 : ¬ ((i : Int) < (s.length : Int)) := by omega
    rw [List.drop_eq_nil_of_le h]
    simp only [T105_0, h1, decide_false, Bool.false_eq_true, if_false, bytesOf_ofBytes, openF, List.append_nil]
    exact evt_some _
  intro n
  induction n with
  | zero => intro i out h _ _; exact fin i out (by omega)
  | succ n ih =>
    intro i out h ho hi
    by_cases hlt : i < s.length
    · refine N105_0 s (ofBytes out) (i : Nat) ?_
      have h1 : ((i : Int) < (s.length : Int)) := by omega
      have h2 : (0 : Int) ≤ (i : Int) := by omega
      have hw : IntKind.wrap .i64 ((i : Int) + 1) = ((i + 1 : Nat) : Int) := by rw [wrap64 (by omega) (by omega)]; omega
      have hw2 : IntKind.wrap .i64 ((i : Int) + 2) = ((i + 2 : Nat) : Int) := by rw [wrap64 (by omega) (by omega)]; omega
      have hw3 : IntKind.wrap .i64 (((i + 2 : Nat) : Int) + 1) = ((i + 3 : Nat) : Int) := by rw [wrap64 (by omega) (by omega)]; omega
      have e37 : (((s[i].toNat : Nat) : Int) == (37 : Int)) = (s[i] == 37) := intB_lit s[i] 37 (by omega)
      have hap : ∀ c : Int, appOk (ofBytes out) [V.int IntKind.u8 c] 2 = true := fun c => app_ok (by simp [ofBytes_length]; omega)
      have plain : openF (s.drop i) = s[i] :: openF (s.drop (i + 1)) → Evt (fun k n => chk (decide (0 ≤ (i : Int))) (chk (decide ((i : Int) < (s.length : Int))) (chk (appOk (ofBytes out) [V.int IntKind.u8 ((UInt8.toNat (List.getD s (Int.toNat (i : Int)) 0) : Nat) : Int)] 2) (L105 (callN cfg k) n s (ofBytes out ++ [V.int IntKind.u8 ((UInt8.toNat (List.getD s (Int.toNat (i : Int)) 0) : Nat) : Int)]) (IntKind.wrap .i64 ((i : Int) + 1)))))) (.str (out ++ openF (s.drop i)), []) := by
        intro e
        have := ih (i + 1) (out ++ [s[i]]) (by omega) (by simp; omega) (by omega)
        simp only [chk_p h2, chk_p h1, chk_b (hap _), Int.toNat_natCast, getD_at hlt, ofBytes_snoc, hw]
        rw [e]
        simpa using this
      by_cases c37 : s[i] = 37
      · have b37 : (s[i] == 37) = true := by simpa using c37
        by_cases h3 : i + 2 < s.length
        · have g3 : ((i + 2 : Nat) : Int) < (s.length : Int) := by omega
          have g4 : ((i + 1 : Nat) : Int) < (s.length : Int) := by omega
          have g5 : (0 : Int) ≤ ((i + 1 : Nat) : Int) := by omega
          have g6 : (0 : Int) ≤ ((i + 2 : Nat) : Int) := by omega
          have hlt1 : i + 1 < s.length := by omega
          have hd : s.drop i = s[i] :: s[i+1] :: s[i+2] :: s.drop (i + 3) := by rw [drop_at hlt, drop_at hlt1, drop_at h3]
          simp only [T105_0, h1, decide_true, if_true, chk_p h2, chk_t, bind_s, Int.toNat_natCast, getD_at hlt, e37, b37, hw2, g3, hw, chk_p g5, chk_p g4, getD_at hlt1]
          refine evt_bind (ret114 s[i+1]) ?_
          simp only [chk_p g6, chk_p g3, getD_at h3]
          refine evt_bind (ret114 s[i+2]) ?_
          simp only [V.getT, V.getB, V.getI, List.headD_cons, List.tail_cons]
          cases ha : hexN s[i+1] with
          | none =>
            simp only [Option.isSome_none, Bool.false_eq_true, if_false, bind_s]
            have e : openF (s.drop i) = s[i] :: openF (s.drop (i + 1)) := by
              rw [hd, openF, if_pos c37, ha, drop_at hlt1, drop_at h3]
            have := plain e
            simp only [Int.toNat_natCast, getD_at hlt, hw, chk_p h2, chk_p h1] at this
            exact this
          | some x =>
            cases hb : hexN s[i+2] with
            | none =>
              simp only [Option.isSome_none, Option.isSome_some, Bool.false_eq_true, if_false, if_true, bind_s]
              have e : openF (s.drop i) = s[i] :: openF (s.drop (i + 1)) := by
                rw [hd, openF, if_pos c37, ha, hb, drop_at hlt1, drop_at h3]
              have := plain e
              simp only [Int.toNat_natCast, getD_at hlt, hw, chk_p h2, chk_p h1] at this
              exact this
            | some y =>
              have ho16 := or16 ⟨x, hexN_lt ha⟩ ⟨y, hexN_lt hb⟩
              simp only [Option.isSome_some, if_true, bind_s, Option.getD_some, ho16, chk_p (show (0 : Int) ≤ 4 by omega), chk_b (hap _), ofBytes_snoc, hw3]
              have := ih (i + 3) (out ++ [UInt8.ofNat (16 * x + y)]) (by omega) (by simp; omega) (by omega)
              rw [hd, openF, if_pos c37, ha, hb]
              simpa using this
        · have g3 : ¬ (((i + 2 : Nat) : Int) < (s.length : Int)) := by omega
          have e : openF (s.drop i) = s[i] :: openF (s.drop (i + 1)) := by
            rw [drop_at hlt]; exact openF_plain _ _ (.inr (by simp; omega))
          have := plain e
          simp only [Int.toNat_natCast, getD_at hlt, hw, chk_p h2, chk_p h1] at this
          simp only [T105_0, h1, decide_true, decide_false, if_true, chk_p h2, chk_t, bind_s, Int.toNat_natCast, getD_at hlt, e37, b37, hw2, g3, Bool.false_eq_true, if_false, hw]
          exact this
      · have b37 : (s[i] == 37) = false := by simpa using c37
        have e : openF (s.drop i) = s[i] :: openF (s.drop (i + 1)) := by
          rw [drop_at hlt]; exact openF_plain _ _ (.inl c37)
        have := plain e
        simp only [Int.toNat_natCast, getD_at hlt, hw, chk_p h2, chk_p h1] at this
        simp only [T105_0, h1, decide_true, if_true, chk_p h2, chk_t, bind_s, Int.toNat_natCast, getD_at hlt, e37, b37, Bool.false_eq_true, if_false, hw]
        exact this
    · exact fin i out (by omega)
theorem ret105 (s : Bs) (hs : s.length ≤ 1000000) : Ret 105 [.str s] [] (.str (openF s), []) := by
  refine M105 s ?_
  simp only [T105]
  exact loop105 s hs s.length 0 [] (by omega) (by simp) (by omega)
end Go.Proofs.YtemgbdncidgoiaaDoor
end
section
namespace Go.Proofs.YtemgbdncidgoiaaDoor
open Go.Ev Go
def aroundF (b : UInt8) : Bs → Option (Bs × Bs)
  | [] => none
  | c :: r => if c = b then some ([], r) else (aroundF b r).map fun p => (c :: p.1, p.2)
theorem around_eq {b : UInt8} : ∀ {s t r : Bs}, aroundF b s = some (t, r) → s = t ++ b :: r
  | [], _, _, h => by simp [aroundF] at h
  | c :: s, t, r, h => by
    unfold aroundF at h
    split at h
    · rename_i e; cases h; simp [e]
    · simp at h
      obtain ⟨a, ha, rfl⟩ := h
      rw [around_eq ha]; rfl
theorem index_around (b : UInt8) : ∀ s : Bs, Lib.indexByte s b = match aroundF b s with | some p => (p.1.length : Int) | none => -1
  | [] => rfl
  | c :: s => by
    unfold Lib.indexByte aroundF
    rw [index_around b s]
    by_cases h : c = b
    · simp [h]
    · have h' : (c == b) = false := by simpa using h
      simp only [h', Bool.false_eq_true, if_false, h]
      cases aroundF b s with
      | none => rfl
      | some p =>
        have : ((p.1.length : Int) == -1) = false := by simp
        simp [this]
def baseF (s : Bs) : Bs := match aroundF 42 s with | some p => p.1 | none => s
theorem baseF_le (s : Bs) : (baseF s).length ≤ s.length := by
  unfold baseF
  cases h : aroundF 42 s with
  | none => simp
  | some p => have := congrArg List.length (around_eq h); simp at this ⊢; omega
theorem ret113 (s : Bs) (b : UInt8) : Ret 113 [.str s, .str [b]] [] (.int .i64 (Lib.indexByte s b), []) := ret_hand (h := idxF) rfl rfl
theorem ret103 (s : Bs) (hs : s.length ≤ 1000000) : ∃ r b, Ret 103 [.str s, .str [42]] [] (.tup [.str (baseF s), .str r, .bool b], []) := by
  unfold baseF
  cases h : aroundF 42 s with
  | none =>
    refine ⟨[], false, M103 s [42] ?_⟩
    simp only [T103]
    refine evt_bind (ret113 s 42) ?_
    rw [index_around, h]
    simp only [V.getI, show ¬ ((-1 : Int) ≥ 0) by omega, decide_false, Bool.false_eq_true, if_false]
    exact evt_some _
  | some p =>
    have hl := congrArg List.length (around_eq h)
    simp at hl
    have hw : IntKind.wrap .i64 ((p.1.length : Int) + ((([42] : Bs).length : Nat) : Int)) = ((p.1.length + 1 : Nat) : Int) := by
      rw [show ((([42] : Bs).length : Nat) : Int) = 1 from rfl, wrap64 (by omega) (by omega)]; omega
    have g0 : (p.1.length : Int) ≥ 0 := by omega
    have g1 : (p.1.length : Int) ≤ (s.length : Int) := by omega
    have g2 : ((p.1.length + 1 : Nat) : Int) ≤ (s.length : Int) := by omega
    have g3 : (0 : Int) ≤ ((p.1.length + 1 : Nat) : Int) := by omega
    refine ⟨s.drop (p.1.length + 1), true, M103 s [42] ?_⟩
    simp only [T103]
    obtain ⟨x, hx⟩ : ∃ x : Int, x = (p.1.length : Int) := ⟨_, rfl⟩
    have h51 : Ret 113 [.str s, .str [42]] [] (.int .i64 x, []) := by
      have := ret113 s 42
      rw [index_around, h] at this
      rw [hx]; exact this
    refine evt_bind h51 ?_
    have e1 : (s.take p.1.length) = p.1 := by
      have := around_eq h
      conv => lhs; rw [this]
      simp
    rw [← hx] at hw g0 g1
    show Evt (fun _ _ => if decide (x ≥ 0) = true then
        chk (decide (0 ≤ x)) (chk (decide (x ≤ ((List.length s : Nat) : Int))) (chk (decide ((0 : Int) ≤ 0)) (chk (decide (0 ≤ x)) (chk (decide (0 ≤ (IntKind.wrap IntKind.i64 (x + ((List.length ([42] : Bs) : Nat) : Int))))) (chk (decide ((IntKind.wrap IntKind.i64 (x + ((List.length ([42] : Bs) : Nat) : Int))) ≤ ((List.length s : Nat) : Int))) (some ((V.tup [(V.str (List.drop (Int.toNat (0 : Int)) (List.take (Int.toNat x) s))), (V.str (List.drop (Int.toNat (IntKind.wrap IntKind.i64 (x + ((List.length ([42] : Bs) : Nat) : Int)))) s)), (V.bool true)]), [])))))))
      else some ((V.tup [(V.str s), (V.str []), (V.bool false)]), [])) _
    rw [hw]
    have hxn : x.toNat = p.1.length := by omega
    simp only [g0, decide_true, if_true, ge_iff_le.1 g0, chk_t, chk_p g1, chk_p g2, chk_p g3, chk_p (Int.le_refl 0), hxn, Int.toNat_natCast, Int.toNat_zero, List.drop_zero, e1]
    exact evt_some _
theorem ret84 (s : Bs) (hs : s.length ≤ 1000000) : ∃ r b, Ret 84 [.str s, .str [42]] [] (.tup [.str (baseF s), .str r, .bool b], []) := by
  obtain ⟨r, b, h⟩ := ret103 s hs
  refine ⟨r, b, M84 s [42] ?_⟩
  simp only [T84]
  exact evt_bind h (evt_some _)
def bareF (s : Bs) : Bs := match aroundF 39 s with
  | none => s
  | some p => match aroundF 39 p.2 with | none => s | some q => q.2
theorem bareF_le (s : Bs) : (bareF s).length ≤ s.length := by
  unfold bareF
  cases h : aroundF 39 s with
  | none => simp
  | some p =>
    have h1 := congrArg List.length (around_eq h)
    dsimp only
    cases h' : aroundF 39 p.2 with
    | none => simp
    | some q => have h2 := congrArg List.length (around_eq h'); simp at h1 h2 ⊢; omega
theorem cutK_around (b : UInt8) (k : Nat) (s : Bs) : cutK b (k + 1) s = match aroundF b s with | none => [s] | some p => p.1 :: cutK b k p.2 := by
  rw [cutK, index_around]
  cases h : aroundF b s with
  | none => simp
  | some p =>
    have e := around_eq h
    have h1 : ¬ ((p.1.length : Int) = -1) := by omega
    simp only [h1, if_false, Int.toNat_natCast]
    have e1 : s.take p.1.length = p.1 := by conv => lhs; rw [e]
                                            simp
    have e2 : s.drop (p.1.length + 1) = p.2 := by conv => lhs; rw [e]
                                                  simp
    rw [e1, e2]
theorem ret106 (s : Bs) (hs : s.length ≤ 1000000) : Ret 106 [.str s] [] (.str (bareF s), []) := by
  have h53 : Ret 115 [.str s, .str [39], .int .i64 (3 : Int)] [] (.lst 9 false ((cutK 39 (min (Int.toNat 3) (s.length + 1) - 1) s).map V.str), []) := by
    refine ret_hand (h := splitF) rfl ?_
    have : s.length < 4294967281 := by omega
    simp [splitF, this]
  refine M106 s ?_
  simp only [T106]
  refine evt_bind h53 ?_
  simp only [V.getL, List.length_map]
  generalize hk : cutK 39 (min (Int.toNat 3) (s.length + 1) - 1) s = ps
  have hmain : (ps.length < 3 ∧ bareF s = s) ∨ (∃ a b, ps = [a, b, bareF s]) := by
    unfold bareF
    by_cases h2 : 2 ≤ s.length
    · have : min (Int.toNat 3) (s.length + 1) - 1 = 2 := by simp; omega
      rw [this, cutK_around] at hk
      cases h : aroundF 39 s with
      | none => rw [h] at hk; left; subst hk; simp
      | some p =>
        rw [h] at hk
        simp only [cutK_around] at hk
        cases h' : aroundF 39 p.2 with
        | none => rw [h'] at hk; left; subst hk; exact ⟨by simp, by simp only [h']⟩
        | some q => rw [h'] at hk; right; subst hk; exact ⟨p.1, q.1, by simp [h', cutK]⟩
    · left
      have hsm : (match aroundF 39 s with | none => s | some p => match aroundF 39 p.2 with | none => s | some q => q.2) = s := by
        cases h : aroundF 39 s with
        | none => rfl
        | some p =>
          have h1 := congrArg List.length (around_eq h)
          dsimp only
          cases h' : aroundF 39 p.2 with
          | none => rfl
          | some q => have h3 := congrArg List.length (around_eq h'); simp at h1 h3; omega
      refine ⟨?_, hsm⟩
      have : min (Int.toNat 3) (s.length + 1) - 1 ≤ 1 := by simp; omega
      have hk2 : ∀ k, k ≤ 1 → (cutK 39 k s).length < 3 := by
        intro k hk
        match k, hk with
        | 0, _ => simp [cutK]
        | 1, _ => rw [cutK_around]; cases aroundF 39 s <;> simp [cutK]
      rw [← hk]; exact hk2 _ this
  rcases hmain with ⟨h1, h2⟩ | ⟨a, b, h⟩
  · have g : (ps.length : Int) < 3 := by omega
    simp only [g, decide_true, if_true, h2]
    exact evt_some _
  · subst h
    simp only [List.length_cons, List.length_nil, show ¬ (((0 + 1 + 1 + 1 : Nat) : Int) < 3) by omega, decide_false, Bool.false_eq_true, if_false]
    generalize bareF s = x
    exact evt_some _
def digF (n : Nat) : Bs := if n < 10 then [UInt8.ofNat (48 + n)] else digF (n / 10) ++ [UInt8.ofNat (48 + n % 10)]
termination_by n
theorem digF_small {n : Nat} (h : n < 10) : digF n = [UInt8.ofNat (48 + n)] := by rw [digF, if_pos h]
theorem digF_big {n : Nat} (h : ¬ n < 10) : digF n = digF (n / 10) ++ [UInt8.ofNat (48 + n % 10)] := by rw [digF, if_neg h]
theorem digF_length : ∀ n : Nat, (digF n).length ≤ n + 1 := by
  intro n
  induction n using Nat.strongRecOn with
  | _ n ih =>
    by_cases h : n < 10
    · rw [digF_small h]; simp
    · rw [digF_big h]
      have := ih (n / 10) (by omega)
      simp; omega
theorem enc10 : ∀ d : Fin 10, (Utf8.encode (IntKind.wrap .i32 (IntKind.wrap .i64 (48 + (d.val : Int))))).data.toList = [UInt8.ofNat (48 + d.val)] := by decide +kernel
theorem loop116 : ∀ (n : Nat) (out : Bs), 0 < n → n + out.length ≤ 2000000 → Evt (fun k m => L116 (callN cfg k) m (n : Int) out false) (.str (digF n ++ out), []) := by
  intro n
  induction n using Nat.strongRecOn with
  | _ n ih =>
    intro out hn hb
    refine N116_0 (n : Int) out false ?_
    have h1 : ((n : Int) != 0) = true := by simp; omega
    have h2 : ((10 : Int) != 0) = true := by decide
    have ht : Int.tmod (n : Int) 10 = ((n % 10 : Nat) : Int) := by rw [Int.tmod_eq_emod_of_nonneg (by omega)]; omega
    have hq : IntKind.wrap .i64 (Int.tdiv (n : Int) 10) = ((n / 10 : Nat) : Int) := by
      rw [Int.tdiv_eq_ediv_of_nonneg (by omega), wrap64 (by omega) (by omega)]; omega
    have hm : IntKind.wrap .i64 (0 - ((n % 10 : Nat) : Int)) = -((n % 10 : Nat) : Int) := by rw [wrap64 (by omega) (by omega)]; omega
    have hng : ¬ (-((n % 10 : Nat) : Int) > ((n % 10 : Nat) : Int)) := by omega
    have he := enc10 ⟨n % 10, by omega⟩
    simp only at he
    have hc : catOk [UInt8.ofNat (48 + n % 10)] out = true := cat_ok (by simp; omega)
    simp only [T116_0, h1, if_true, h2, chk_t, ht, hq, hm, hng, if_false, he, chk_b hc]
    by_cases hs : n < 10
    · have e : n / 10 = 0 := by omega
      have e' : n % 10 = n := by omega
      rw [e, e', digF_small hs]
      refine N116_0 ((0 : Nat) : Int) _ false ?_
      have h0 : ((((0 : Nat) : Int)) != 0) = false := by decide
      simp only [T116_0, h0, Bool.false_eq_true, if_false]
      exact evt_some _
    · rw [digF_big hs]
      have := ih (n / 10) (by omega) ([UInt8.ofNat (48 + n % 10)] ++ out) (by omega) (by simp; omega)
      simpa using this
theorem ret116 (n : Nat) (hn : n ≤ 1000001) : Ret 116 [.int .i64 (n : Int)] [] (.str (digF n), []) := by
  refine M116 (n : Int) ?_
  simp only [T116]
  by_cases h : n = 0
  · subst h
    have h0 : ((((0 : Nat) : Int)) == 0) = true := by decide
    simp only [h0, if_true, digF_small (show 0 < 10 by omega)]
    exact evt_some _
  · have h0 : ((n : Int) == 0) = false := by simp; omega
    have h1 : ¬ ((n : Int) < 0) := by omega
    simp only [h0, Bool.false_eq_true, if_false, h1, decide_false]
    have := loop116 n [] (by omega) (by simp; omega)
    simpa using this
end Go.Proofs.YtemgbdncidgoiaaDoor
end
section
namespace Go.Proofs.YtemgbdncidgoiaaDoor
open Go.Ev Go
theorem findF_some : ∀ {l : Ps} {name v : Bs}, findF l name = some v → ∃ p ∈ l, p.1 = name ∧ p.2 = v
  | [], _, _, h => by simp [findF] at h
  | p :: l, name, v, h => by
    unfold findF at h
    split at h
    · rename_i e; cases h; exact ⟨p, by simp, e, rfl⟩
    · obtain ⟨q, hq, h1⟩ := findF_some h
      exact ⟨q, by simp [hq], h1⟩
def joinS (l : Ps) (base : Bs) (n : Nat) : Option Bs :=
  match findF l ((base ++ [42]) ++ digF n) with
  | some v => some v
  | none => match findF l (((base ++ [42]) ++ digF n) ++ [42]) with
    | some v => some (openF (if n = 0 then bareF v else v))
    | none => none
def joinL (l : Ps) (base : Bs) : Nat → Nat → Bs
  | 0, _ => []
  | f + 1, n => match joinS l base n with | none => [] | some v => v ++ joinL l base f (n + 1)
def valD (ds : Bs) : Nat := ds.foldl (fun a d => 10 * a + (d.toNat - 48)) 0
theorem digit_nat {d : Nat} (h : d < 10) : (UInt8.ofNat (48 + d)).toNat = 48 + d := by simp; omega
theorem valD_digF : ∀ n : Nat, valD (digF n) = n := by
  intro n
  induction n using Nat.strongRecOn with
  | _ n ih =>
    by_cases h : n < 10
    · rw [digF_small h]
      show 10 * 0 + ((UInt8.ofNat (48 + n)).toNat - 48) = n
      rw [digit_nat h]; omega
    · rw [digF_big h]
      have := ih (n / 10) (by omega)
      unfold valD at this ⊢
      rw [List.foldl_append, this]
      show 10 * (n / 10) + ((UInt8.ofNat (48 + n % 10)).toNat - 48) = n
      rw [digit_nat (by omega)]; omega
theorem digF_no42 : ∀ n : Nat, ∀ d ∈ digF n, d ≠ 42 := by
  intro n
  have key : ∀ m, m < 10 → UInt8.ofNat (48 + m) ≠ 42 := fun m hm e => by
    have := congrArg UInt8.toNat e
    rw [digit_nat hm] at this
    simp at this; omega
  induction n using Nat.strongRecOn with
  | _ n ih =>
    by_cases h : n < 10
    · rw [digF_small h]
      intro d hd
      rw [List.mem_singleton] at hd; subst hd; exact key n h
    · rw [digF_big h]
      intro d hd
      rw [List.mem_append] at hd
      rcases hd with hd | hd
      · exact ih (n / 10) (by omega) d hd
      · rw [List.mem_singleton] at hd; subst hd; exact key _ (by omega)
theorem digF_strip (n : Nat) (e : Bs) (he : e = [] ∨ e = [42]) : (digF n ++ e).filter (· != 42) = digF n := by
  rw [List.filter_append]
  have h1 : (digF n).filter (· != 42) = digF n := List.filter_eq_self.2 fun d hd => by simpa using digF_no42 n d hd
  rw [h1]
  rcases he with rfl | rfl <;> simp
def matchN (base : Bs) (p : Bs × Bs) (n : Nat) : Bool := p.1 == (base ++ [42]) ++ digF n || p.1 == ((base ++ [42]) ++ digF n) ++ [42]
theorem matchN_one {base : Bs} {p : Bs × Bs} {n m : Nat} (h : matchN base p n = true) (h' : matchN base p m = true) : n = m := by
  have key : ∀ k, matchN base p k = true → ∃ e, (e = [] ∨ e = [42]) ∧ p.1 = (base ++ [42]) ++ (digF k ++ e) := by
    intro k hk
    simp only [matchN, Bool.or_eq_true, beq_iff_eq] at hk
    rcases hk with hk | hk
    · exact ⟨[], .inl rfl, by rw [hk]; simp⟩
    · exact ⟨[42], .inr rfl, by rw [hk]; simp⟩
  obtain ⟨e1, he1, h1⟩ := key n h
  obtain ⟨e2, he2, h2⟩ := key m h'
  have := List.append_cancel_left (h1.symm.trans h2)
  have h3 := congrArg (List.filter (· != 42)) this
  rw [digF_strip n e1 he1, digF_strip m e2 he2] at h3
  rw [← valD_digF n, ← valD_digF m, h3]
theorem joinS_match {l : Ps} {base : Bs} {n : Nat} {v : Bs} (h : joinS l base n = some v) : ∃ p ∈ l, matchN base p n = true ∧ v.length ≤ p.2.length := by
  unfold joinS at h
  split at h
  · rename_i u hu
    cases h
    obtain ⟨p, hp, h1, h2⟩ := findF_some hu
    exact ⟨p, hp, by simp [matchN, h1], by rw [h2]; exact Nat.le_refl _⟩
  · split at h
    · rename_i u hu
      cases h
      obtain ⟨p, hp, h1, h2⟩ := findF_some hu
      refine ⟨p, hp, by simp [matchN, h1], ?_⟩
      rw [h2]
      split
      · exact Nat.le_trans (openF_le _) (bareF_le _)
      · exact openF_le _
    · cases h
theorem filter_split {α : Type} (q : α → Bool) : ∀ S : List α, S.length = (S.filter q).length + (S.filter fun x => !q x).length
  | [] => rfl
  | x :: S => by
    have := filter_split q S
    cases h : q x <;> simp [h] <;> omega
theorem nodup_one {α : Type} : ∀ {S : List α}, S.Nodup → (∀ x ∈ S, ∀ y ∈ S, x = y) → S.length ≤ 1
  | [], _, _ => by simp
  | [x], _, _ => by simp
  | x :: y :: S, h, h' => by
    have := h' x (by simp) y (by simp)
    subst this
    simp at h
theorem pigeon (base : Bs) : ∀ (l : Ps) (S : List Nat), S.Nodup → (∀ n ∈ S, ∃ p ∈ l, matchN base p n = true) → S.length ≤ l.length
  | [], S, _, h => by
    cases S with
    | nil => simp
    | cons n S => obtain ⟨p, hp, _⟩ := h n (by simp); simp at hp
  | p :: l, S, hn, h => by
    have h1 := filter_split (fun n => matchN base p n) S
    have h2 : (S.filter fun n => matchN base p n).length ≤ 1 := nodup_one (hn.filter _) fun x hx y hy => by
      rw [List.mem_filter] at hx hy
      exact matchN_one hx.2 hy.2
    have h3 := pigeon base l (S.filter fun n => !matchN base p n) (hn.filter _) fun n hnm => by
      rw [List.mem_filter] at hnm
      obtain ⟨q, hq, hm⟩ := h n hnm.1
      rw [List.mem_cons] at hq
      rcases hq with rfl | hq
      · rw [hm] at hnm; simp at hnm
      · exact ⟨q, hq, hm⟩
    rw [List.length_cons]; omega
theorem joinS_ends (l : Ps) (base : Bs) : ∃ m, m ≤ l.length ∧ joinS l base m = none := by
  apply Classical.byContradiction
  intro hno
  have : ∀ n ∈ List.range (l.length + 1), ∃ p ∈ l, matchN base p n = true := by
    intro n hn
    rw [List.mem_range] at hn
    cases h : joinS l base n with
    | none => exact absurd ⟨n, by omega, h⟩ hno
    | some v => obtain ⟨p, hp, hm, _⟩ := joinS_match h; exact ⟨p, hp, hm⟩
  have := pigeon base l _ List.nodup_range this
  simp at this; omega
theorem loop107 (l : Ps) (base : Bs) (hl : l.length ≤ 1000000) (hv : ∀ p ∈ l, p.2.length ≤ 1000000) (hb : base.length ≤ 1000000) : ∀ (f n : Nat) (out : Bs), n + f ≤ 1000001 → out.length ≤ n * 1000000 →
    (∃ m, n ≤ m ∧ m < n + f ∧ joinS l base m = none) →
    Evt (fun k j => L107 (callN cfg k) j (l.map pV) base out (n : Int)) (.tup [.str (out ++ joinL l base f n), .bool (decide (0 < n) || (joinS l base n).isSome)], [])
  | 0, n, out, _, _, ⟨m, h1, h2, _⟩ => by omega
  | f + 1, n, out, hf, ho, ⟨m, h1, h2, h3⟩ => by
    refine N107_0 (l.map pV) base out (n : Int) ?_
    have hd := digF_length n
    have c1 : catOk base [42] = true := cat_ok (by simp; omega)
    have c2 : catOk (base ++ [42]) (digF n) = true := cat_ok (by simp; omega)
    have c3 : catOk ((base ++ [42]) ++ digF n) [42] = true := cat_ok (by simp; omega)
    have hw : IntKind.wrap .i64 ((n : Int) + 1) = ((n + 1 : Nat) : Int) := by rw [wrap64 (by omega) (by omega)]; omega
    have next : ∀ v, joinS l base n = some v → catOk out v = true ∧ Evt (fun k j => L107 (callN cfg k) j (l.map pV) base (out ++ v) ((n + 1 : Nat) : Int)) (.tup [.str (out ++ joinL l base (f + 1) n), .bool (decide (0 < n) || (joinS l base n).isSome)], []) := by
      intro v hj
      obtain ⟨p, hp, _, hle⟩ := joinS_match hj
      have := hv p hp
      refine ⟨cat_ok (by omega), ?_⟩
      have hne : n ≠ m := fun e => by rw [e, h3] at hj; cases hj
      have := loop107 l base hl hv hb f (n + 1) (out ++ v) (by omega) (by simp; omega) ⟨m, by omega, by omega, h3⟩
      rw [joinL, hj]
      simpa using this
    simp only [T107_0, chk_b c1]
    refine evt_bind (ret116 n (by omega)) ?_
    simp only [V.getS, chk_b c2]
    refine evt_bind (ret104 l hl _) ?_
    simp only [V.getT, List.tail_cons, List.headD_cons, V.getB, V.getS]
    cases hj1 : findF l ((base ++ [42]) ++ digF n) with
    | some v =>
      have hj : joinS l base n = some v := by unfold joinS; rw [hj1]
      obtain ⟨hc, hn⟩ := next v hj
      simp only [Option.isSome_some, Bool.not_true, Bool.false_eq_true, if_false, Option.getD_some, chk_b hc, hw]
      exact hn
    | none =>
      simp only [Option.isSome_none, Bool.not_false, if_true, chk_b c3]
      refine evt_bind (ret104 l hl _) ?_
      simp only [V.getT, List.tail_cons, List.headD_cons, V.getB, V.getS]
      cases hj2 : findF l (((base ++ [42]) ++ digF n) ++ [42]) with
      | none =>
        have hj : joinS l base n = none := by unfold joinS; rw [hj1]; dsimp only; rw [hj2]
        simp only [Option.isSome_none, Bool.not_false, if_true]
        rw [joinL, hj]
        have : (decide ((n : Int) > 0)) = (decide (0 < n) || (none : Option Bs).isSome) := by simp
        rw [this]
        simp only [List.append_nil]
        exact evt_some _
      | some v =>
        have hj : joinS l base n = some (openF (if n = 0 then bareF v else v)) := by unfold joinS; rw [hj1]; dsimp only; rw [hj2]
        obtain ⟨hc, hn⟩ := next _ hj
        obtain ⟨p, hp, _, rfl⟩ := findF_some hj2
        have hvl := hv p hp
        simp only [Option.isSome_some, Bool.not_true, Bool.false_eq_true, if_false, Option.getD_some]
        by_cases h0 : n = 0
        · have hb0 : ((n : Int) == 0) = true := by simp [h0]
          simp only [hb0, if_true]
          refine evt_bind (ret106 p.2 hvl) ?_
          simp only [V.getS]
          refine evt_bind (ret105 _ (Nat.le_trans (bareF_le _) hvl)) ?_
          rw [if_pos h0] at hc hn
          simp only [V.getS, chk_b hc, hw]
          exact hn
        · have hb0 : ((n : Int) == 0) = false := by simp [h0]
          simp only [hb0, Bool.false_eq_true, if_false]
          refine evt_bind (ret105 _ hvl) ?_
          rw [if_neg h0] at hc hn
          simp only [V.getS, chk_b hc, hw]
          exact hn
def joinF (l : Ps) (base : Bs) : Option Bs := if (joinS l base 0).isSome then some (joinL l base (l.length + 1) 0) else none
theorem ret107 (l : Ps) (base : Bs) (hl : l.length ≤ 1000000) (hv : ∀ p ∈ l, p.2.length ≤ 1000000) (hb : base.length ≤ 1000000) :
    Ret 107 [.lst 116 false (l.map pV), .str base] [] (.tup [.str ((joinF l base).getD []), .bool (joinF l base).isSome], []) := by
  refine M107 (l.map pV) base ?_
  simp only [T107]
  obtain ⟨m, h1, h2⟩ := joinS_ends l base
  have := loop107 l base hl hv hb (l.length + 1) 0 [] (by omega) (by simp) ⟨m, by omega, by omega, h2⟩
  unfold joinF
  cases hj : joinS l base 0 with
  | none => rw [hj] at this; simpa [joinL, hj] using this
  | some v => rw [hj] at this; simpa [hj] using this
def toldF (l : Ps) (base : Bs) : Option Bs :=
  match findF l base with
  | some v => some v
  | none => match findF l (base ++ [42]) with
    | some v => some (openF (bareF v))
    | none => joinF l base
theorem ret85 (l : Ps) (base : Bs) (hl : l.length ≤ 1000000) (hv : ∀ p ∈ l, p.2.length ≤ 1000000) (hb : base.length ≤ 1000000) :
    Ret 85 [.lst 116 false (l.map pV), .str base] [] (.tup [.str ((toldF l base).getD []), .bool (toldF l base).isSome], []) := by
  refine M85 (l.map pV) base ?_
  have c1 : catOk base [42] = true := cat_ok (by simp; omega)
  simp only [T85]
  refine evt_bind (ret104 l hl base) ?_
  simp only [V.getT, List.tail_cons, List.headD_cons, V.getB, V.getS]
  unfold toldF
  cases h1 : findF l base with
  | some v =>
    simp only [Option.isSome_some, if_true, Option.getD_some]
    exact evt_some _
  | none =>
    simp only [Option.isSome_none, Bool.false_eq_true, if_false, chk_b c1]
    refine evt_bind (ret104 l hl _) ?_
    simp only [V.getT, List.tail_cons, List.headD_cons, V.getB, V.getS]
    cases h2 : findF l (base ++ [42]) with
    | some v =>
      obtain ⟨p, hp, _, rfl⟩ := findF_some h2
      simp only [Option.isSome_some, if_true, Option.getD_some]
      refine evt_bind (ret106 _ (hv p hp)) ?_
      simp only [V.getS]
      refine evt_bind (ret105 _ (Nat.le_trans (bareF_le _) (hv p hp))) ?_
      exact evt_some _
    | none =>
      simp only [Option.isSome_none, Bool.false_eq_true, if_false]
      refine evt_bind (ret107 l base hl hv hb) ?_
      exact evt_some _
end Go.Proofs.YtemgbdncidgoiaaDoor
end
section
namespace Go.Proofs.YtemgbdncidgoiaaDoor
open Go.Ev Go
theorem pairsF_small : ∀ (n : Nat) (s : Bs), s.length ≤ n → (pairsF s).length ≤ s.length ∧ ∀ p ∈ pairsF s, p.1.length ≤ s.length ∧ p.2.length ≤ s.length := by
  intro n
  induction n with
  | zero =>
    intro s h
    have : s = [] := List.eq_nil_of_length_eq_zero (by omega)
    subst this
    have hb : byteF 59 [] = none := by simp [byteF, skipF_nil]
    rw [pairsF_eq]; simp [hb]
  | succ n ih =>
    intro s h
    rw [pairsF_eq]
    cases h1 : byteF 59 s with
    | none => simp
    | some s1 =>
      have g1 := byteF_le h1
      have g2 := tokF_le s1
      dsimp only
      split
      · simp
      · cases h2 : byteF 61 (tokF s1).2 with
        | none => simp
        | some s3 =>
          have g3 := byteF_le h2
          dsimp only
          cases h3 : valF s3 with
          | none => simp
          | some p =>
            obtain ⟨v, s4⟩ := p
            have g4 := valF_le h3
            obtain ⟨e1, e2⟩ := ih s4 (by omega)
            dsimp only
            refine ⟨by rw [List.length_cons]; omega, fun p hp => ?_⟩
            rw [List.mem_cons] at hp
            rcases hp with rfl | hp
            · simp only [List.length_map]; omega
            · have := e2 p hp; omega
theorem same_str (a b : Bs) : (Sc.str a).same (.str b) = (a == b) := rfl
theorem getB_put (x y : Bs) : ∀ m : List (Sc × Sc), Sc.getB (mget (.str x) (mput (.str y) (.bool true) m)) = (x == y || Sc.getB (mget (.str x) m))
  | [] => by
    simp only [mput, mget, same_str]
    by_cases h : x = y
    · simp [h, Sc.getB]
    · simp [h, Sc.getB]
  | (k, u) :: m => by
    have ih := getB_put x y m
    simp only [mput]
    cases hk : (Sc.str y).same k
    · simp only [Bool.false_eq_true, if_false, mget]
      cases hx : (Sc.str x).same k
      · simp only [Bool.false_eq_true, if_false]; exact ih
      · simp only [if_true]
        have : (x == y) = false := by
          cases k with
          | str b =>
            rw [same_str] at hk hx
            have e := eq_of_beq hx
            subst e
            cases hxy : (x == y) with
            | false => rfl
            | true => have e := eq_of_beq hxy; subst e; simp at hk
          | _ => cases hx
        rw [this, Bool.false_or]
    · simp only [if_true, mget]
      cases k with
      | str b =>
        rw [same_str] at hk
        have e := eq_of_beq hk
        subst e
        simp only [same_str]
        by_cases h : x = y
        · simp [h, Sc.getB]
        · simp [h]
      | _ => cases hk
def parP (l : Ps) : List Bs → Ps → Ps
  | _, [] => []
  | seen, p :: r =>
    if baseF p.1 = [] ∨ baseF p.1 ∈ seen then parP l seen r
    else match toldF l (baseF p.1) with
      | some x => (baseF p.1, x) :: parP l (baseF p.1 :: seen) r
      | none => parP l (baseF p.1 :: seen) r
theorem loop60 (l : Ps) (hl : l.length ≤ 1000000) (hv : ∀ p ∈ l, p.1.length ≤ 1000000 ∧ p.2.length ≤ 1000000) (s4 s5 s7 t u : Bs) (l6 : List V) : ∀ (n i : Nat) (out : Ps) (seen : List Bs) (m : List (Sc × Sc)),
    l.length - i ≤ n → out.length ≤ i → (∀ x, Sc.getB (mget (.str x) m) = decide (x ∈ seen)) →
    Evt (fun k j => L60 (callN cfg k) j (l.map pV) (l.map pV) (l.length : Nat) (i : Nat) s4 s5 l6 s7 t u (out.map pV) m) (.tup [.agg [.str t, .str u, .lst 116 false ((out ++ parP l seen (l.drop i)).map pV)], .bool true], []) := by
  have fin : ∀ (i : Nat) (out : Ps) (seen : List Bs) (m : List (Sc × Sc)), l.length ≤ i →
      Evt (fun k j => L60 (callN cfg k) j (l.map pV) (l.map pV) (l.length : Nat) (i : Nat) s4 s5 l6 s7 t u (out.map pV) m) (.tup [.agg [.str t, .str u, .lst 116 false ((out ++ parP l seen (l.drop i)).map pV)], .bool true], []) := by
    intro i out seen m h
    refine N60_0 (l.map pV) (l.map pV) (l.length : Nat) (i : Nat) s4 s5 l6 s7 t u (out.map pV) m ?_
    have h1 : ¬ ((i : Int) < (l.length : Int)) := by omega
    rw [List.drop_eq_nil_of_le h]
    simp only [T60_0, h1, decide_false, Bool.false_eq_true, if_false, parP, List.append_nil]
    exact evt_some _
  intro n
  induction n with
  | zero => intro i out seen m h _ _; exact fin i out seen m (by omega)
  | succ n ih =>
    intro i out seen m h ho hm
    by_cases hlt : i < l.length
    · refine N60_0 (l.map pV) (l.map pV) (l.length : Nat) (i : Nat) s4 s5 l6 s7 t u (out.map pV) m ?_
      have h1 : ((i : Int) < (l.length : Int)) := by omega
      have h2 : (0 : Int) ≤ (i : Int) := by omega
      have hw : IntKind.wrap .i64 ((i : Int) + 1) = ((i + 1 : Nat) : Int) := by rw [wrap64 (by omega) (by omega)]; omega
      have hd : l.drop i = l[i] :: l.drop (i + 1) := List.drop_eq_getElem_cons hlt
      have hpv := hv l[i] (List.getElem_mem hlt)
      have hvv : ∀ p ∈ l, p.2.length ≤ 1000000 := fun p hp => (hv p hp).2
      obtain ⟨r, b, h21⟩ := ret84 l[i].1 hpv.1
      rw [hd, parP]
      simp only [T60_0, h1, decide_true, if_true, chk_p h2, List.length_map, chk_t, Int.toNat_natCast, getD_pV hlt, pV, V.cells, List.headD_cons, List.tail_cons, V.getS]
      refine evt_bind h21 ?_
      simp only [V.getT, V.getS, List.headD_cons, hm, sEq, hw]
      have hskip : (if (baseF l[i].1 == []) = false then some (decide (baseF l[i].1 ∈ seen)) else some true) = some (decide (baseF l[i].1 = [] ∨ baseF l[i].1 ∈ seen)) := by
        by_cases e : baseF l[i].1 = []
        · simp [e]
        · have : (baseF l[i].1 == []) = false := by simpa using e
          simp [e]
      rw [hskip]
      simp only [bind_s]
      by_cases hs : baseF l[i].1 = [] ∨ baseF l[i].1 ∈ seen
      · simp only [hs, decide_true, if_true]
        exact ih (i + 1) out seen m (by omega) (by omega) hm
      · simp only [hs, decide_false, Bool.false_eq_true, if_false]
        refine evt_bind (ret85 l (baseF l[i].1) hl hvv (Nat.le_trans (baseF_le _) hpv.1)) ?_
        have hm' : ∀ x, Sc.getB (mget (.str x) (mput (.str (baseF l[i].1)) (.bool true) m)) = decide (x ∈ baseF l[i].1 :: seen) := by
          intro x
          rw [getB_put, hm]
          by_cases e : x = baseF l[i].1
          · simp [e]
          · have : (x == baseF l[i].1) = false := by simpa using e
            rw [this]; simp [e]
        simp only [V.getT, V.getB, V.getS, List.headD_cons, List.tail_cons]
        cases ht : toldF l (baseF l[i].1) with
        | none =>
          simp only [Option.isSome_none, Bool.false_eq_true, if_false]
          exact ih (i + 1) out (baseF l[i].1 :: seen) _ (by omega) (by omega) hm'
        | some x =>
          have hap : appOk (out.map pV) [V.agg [V.str (baseF l[i].1), V.str x]] 33 = true := app_ok (by simp; omega)
          simp only [Option.isSome_some, if_true, Option.getD_some]
          simp only [chk_b hap]
          have := ih (i + 1) (out ++ [(baseF l[i].1, x)]) (baseF l[i].1 :: seen) _ (by omega) (by simp; omega) hm'
          simpa [pV] using this
    · exact fin i out seen m (by omega)
def parseF (s : Bs) (two : Bool) : Option (Bs × Bs × Ps) :=
  if (tokF (skipF s)).1 = [] then none
  else if two then match byteF 47 (tokF (skipF s)).2 with
    | none => none
    | some s2 => if (tokF s2).1 = [] then none else some ((tokF (skipF s)).1.map low8, (tokF s2).1.map low8, parP (pairsF (tokF s2).2) [] (pairsF (tokF s2).2))
  else some ((tokF (skipF s)).1.map low8, [], parP (pairsF (tokF (skipF s)).2) [] (pairsF (tokF (skipF s)).2))
def parseV : Option (Bs × Bs × Ps) → V
  | none => .tup [.agg [.str [], .str [], .lst 116 false []], .bool false]
  | some (t, u, ps) => .tup [.agg [.str t, .str u, .lst 116 false (ps.map pV)], .bool true]
theorem ret60_end (s : Bs) (hs : s.length ≤ 1000000) (rest t u s4 s5 : Bs) (l6 : List V) :
    Evt (fun k j => L60 (callN cfg k) j ((pairsF s).map pV) ((pairsF s).map pV) ((((pairsF s).map pV).length : Nat) : Int) (0 : Int) s4 s5 l6 rest t u [] []) (parseV (some (t, u, parP (pairsF s) [] (pairsF s))), []) := by
  obtain ⟨g1, g2⟩ := pairsF_small s.length s (Nat.le_refl _)
  have := loop60 (pairsF s) (by omega) (fun p hp => by have := g2 p hp; omega) s4 s5 rest t u l6 (pairsF s).length 0 [] [] [] (by omega) (by simp) (fun x => by simp [mget, Sc.getB])
  rw [List.length_map]
  simpa [parseV] using this
theorem ret60 (s : Bs) (hs : s.length ≤ 1000000) (two : Bool) : Ret 60 [.str s, .bool two] [] (parseV (parseF s two), []) := by
  refine M60 s two ?_
  have h0 := skipF_le s
  have h1 := tokF_le (skipF s)
  simp only [T60]
  refine evt_bind (ret80 s hs) ?_
  simp only [List.headD_cons, Ob.getC, V.getS]
  refine evt_bind (ret81 (skipF s) (by omega)) ?_
  simp only [V.getS]
  refine evt_bind (ret65 _ (by omega)) ?_
  simp only [V.getS, List.headD_cons, Ob.getC, sEq]
  unfold parseF
  by_cases ht : (tokF (skipF s)).1 = []
  · simp only [ht, List.map_nil, beq_self_eq_true, if_true]
    exact evt_some _
  · have hb : (((tokF (skipF s)).1.map low8) == []) = false := by simp [ht]
    simp only [hb, Bool.false_eq_true, if_false, ht]
    cases two with
    | false =>
      simp only [Bool.false_eq_true, if_false]
      obtain ⟨rest, h20⟩ := ret83 (tokF (skipF s)).2 (by omega)
      refine evt_bind h20 ?_
      simp only [V.getL, List.headD_cons, Ob.getC, V.getS]
      exact ret60_end _ (by omega) _ _ _ _ _ _
    | true =>
      simp only [if_true]
      refine evt_bind (ret82 (tokF (skipF s)).2 (by omega) 47 (by decide)) ?_
      simp only [V.getB, List.headD_cons, Ob.getC, V.getS]
      cases h2 : byteF 47 (tokF (skipF s)).2 with
      | none =>
        simp only [Option.isSome_none, Bool.not_false, if_true]
        exact evt_some _
      | some s2 =>
        have g2 := byteF_le h2
        have g3 := tokF_le s2
        simp only [Option.isSome_some, Bool.not_true, Bool.false_eq_true, if_false, byteR, h2]
        refine evt_bind (ret81 s2 (by omega)) ?_
        simp only [V.getS, List.headD_cons, Ob.getC]
        refine evt_bind (ret65 _ (by omega)) ?_
        simp only [V.getS]
        by_cases hu : (tokF s2).1 = []
        · simp only [hu, List.map_nil, beq_self_eq_true, if_true]
          exact evt_some _
        · have hb2 : (((tokF s2).1.map low8) == []) = false := by simp [hu]
          simp only [hb2, Bool.false_eq_true, if_false, hu]
          obtain ⟨rest, h20⟩ := ret83 (tokF s2).2 (by omega)
          refine evt_bind h20 ?_
          simp only [V.getL, List.headD_cons, Ob.getC, V.getS]
          exact ret60_end _ (by omega) _ _ _ _ _ _
def getF : Ps → Bs → Option Bs
  | [], _ => none
  | p :: r, name => if p.1.map low8 = name.map low8 then some p.2 else getF r name
theorem loop41 (name : Bs) (hn : name.length ≤ 1000000) (l : Ps) (hl : l.length ≤ 1000000) (hv : ∀ p ∈ l, p.1.length ≤ 1000000) : ∀ (n i : Nat), l.length - i ≤ n →
    Evt (fun k n => L41 (callN cfg k) n name (l.map pV) (l.length : Nat) (i : Nat)) (.tup [.str ((getF (l.drop i) name).getD []), .bool (getF (l.drop i) name).isSome], []) := by
  have fin : ∀ i : Nat, l.length ≤ i → Evt (fun k n => L41 (callN cfg k) n name (l.map pV) (l.length : Nat) (i : Nat)) (.tup [.str ((getF (l.drop i) name).getD []), .bool (getF (l.drop i) name).isSome], []) := by
    intro i h
    refine N41_0 name (l.map pV) (l.length : Nat) (i : Nat) ?_
    have h1 : ¬ ((i : Int) < (l.length : Int)) := by omega
    rw [List.drop_eq_nil_of_le h]
    simp only [T41_0, h1, decide_false, Bool.false_eq_true, if_false, getF]
    exact evt_some _
  intro n
  induction n with
  | zero => intro i h; exact fin i (by omega)
  | succ n ih =>
    intro i h
    by_cases hlt : i < l.length
    · refine N41_0 name (l.map pV) (l.length : Nat) (i : Nat) ?_
      have h1 : ((i : Int) < (l.length : Int)) := by omega
      have h2 : (0 : Int) ≤ (i : Int) := by omega
      have hw : IntKind.wrap .i64 ((i : Int) + 1) = ((i + 1 : Nat) : Int) := by rw [wrap64 (by omega) (by omega)]; omega
      have hd : l.drop i = l[i] :: l.drop (i + 1) := List.drop_eq_getElem_cons hlt
      have hpv := hv l[i] (List.getElem_mem hlt)
      rw [hd, getF]
      simp only [T41_0, h1, decide_true, if_true, chk_p h2, List.length_map, chk_t, Int.toNat_natCast, getD_pV hlt, pV, V.cells, List.headD_cons, List.tail_cons, V.getS, hw]
      refine evt_bind (ret62 l[i].1 name (by omega) (by omega)) ?_
      simp only [V.getB]
      by_cases he : l[i].1.map low8 = name.map low8
      · simp only [he, beq_self_eq_true, if_true]
        exact evt_some _
      · have : (l[i].1.map low8 == name.map low8) = false := by simpa using he
        simp only [this, Bool.false_eq_true, if_false, he]
        exact ih (i + 1) (by omega)
    · exact fin i (by omega)
theorem ret41 (t u : Bs) (l : Ps) (hl : l.length ≤ 1000000) (hv : ∀ p ∈ l, p.1.length ≤ 1000000) (name : Bs) (hn : name.length ≤ 1000000) :
    Ret 41 [.agg [.str t, .str u, .lst 116 false (l.map pV)], .str name] [] (.tup [.str ((getF l name).getD []), .bool (getF l name).isSome], []) := by
  refine M41 t u (l.map pV) name ?_
  simp only [T41, List.length_map]
  exact loop41 name hn l hl hv l.length 0 (by omega)
end Go.Proofs.YtemgbdncidgoiaaDoor
end
