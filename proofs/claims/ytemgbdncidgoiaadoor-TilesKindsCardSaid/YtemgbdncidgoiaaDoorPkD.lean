/- Lemmas for the claim, merged: the plain reading of the program's functions, its soundness, and what they compute. -/
import Derived.Test.YtemgbdncidgoiaaDoorPkC
import Derived.Test.YtemgbdncidgoiaaDoorProg
import Derived.Maps.RangeWalk
import Derived.Lib.Bytealg
import Derived.Lib.IndexLaws
import Derived.Deep.LoopGhost
import Derived.Deep.Light
import Derived.Shelf.RegionOpenPlain
import Derived.Lib.Strings
import Derived.Lib.Slices
import Derived.Lib.Walk
import Derived.Lib.Builder
import Derived.Lib.AppendStr
import Derived.Lib.UnsafeStr
import Derived.WalkKit
import Derived.Laws.Externs
import Derived.Laws.BitsLemmas
import Derived.Lib.SliceRun
import Derived.ProofKit
import Derived.OpenShut
import Derived.Deep.DeepHandedRow
import Derived.Test.YtemgbdncidgoiaaDoorCards
import Derived.Test.YtemgbdncidgoiaaDoorTie
import Derived.IntWalk
import Derived.Laws.BitsAllLaws
import Derived.KernelRfl
set_option linter.all false
set_option linter.unusedVariables false
set_option linter.unusedSimpArgs false
section
namespace Go.Proofs.YtemgbdncidgoiaaDoor
open Go.RowKit Go.Shelf Go.Rg
attribute [local go_sem] Oper.semAt_some
def encLn (x : Nat × Nat × Nat) : Value := .agg #[.int .i64 x.1, .int .i64 x.2.1, .int .i64 x.2.2]
def cellLn (x : Nat × Nat × Nat) : List Value := [.int .i64 x.1, .int .i64 x.2.1, .int .i64 x.2.2]
noncomputable def apAssign : Code := (Code.region 2 #[{ dst := some 5, op := Op.alloc 104, type := 0, pos := "iter.go:51", after := #[], guard := none }, { dst := none, op := Op.store 104 (Operand.tmp 5) (Operand.tmp 7), type := 0, pos := "iter.go:51", after := #[{ on := 0, ground := Ground.data }, { on := 0, ground := Ground.phase }], guard := none }] false)
noncomputable def apBody : Code := (Code.block 1 (Code.region 3 #[{ dst := some 8, op := Op.load 101 (Operand.tmp 2), type := 101, pos := "iter.go:52", after := #[], guard := none }, { dst := some 9, op := Op.load 104 (Operand.tmp 5), type := 104, pos := "iter.go:52", after := #[], guard := none }, { dst := some 10, op := Op.buildSlice 101 1 #[(0, Operand.tmp 9)], type := 101, pos := "iter.go:52", after := #[{ on := 1, ground := Ground.data }], guard := none }, { dst := some 11, op := Op.call { callee := Callee.builtin Builtin.append, args := #[Operand.tmp 8, Operand.tmp 10], argTypes := #[101, 101] }, type := 101, pos := "iter.go:52", after := #[{ on := 0, ground := Ground.data }, { on := 2, ground := Ground.data }], guard := none }, { dst := none, op := Op.store 101 (Operand.tmp 2) (Operand.tmp 11), type := 0, pos := "iter.go:52", after := #[{ on := 3, ground := Ground.data }, { on := 3, ground := Ground.chain }, { on := 0, ground := Ground.phase }, { on := 1, ground := Ground.phase }, { on := 2, ground := Ground.phase }, { on := 3, ground := Ground.phase }], guard := none }] false))
noncomputable def apRec (fn : FuncId) (sv : Value) (Bs D : Nat) (st : LoopState) (pend : Option Code) : Loop :=
  { state := st, pending := pend, fn, tmps := #[.slice none 0 0, sv, .pointer (some ⟨Bs, 0, none⟩), undef, .slice none 0 0, undef, sv, undef, undef, undef, undef, undef, undef], params := #[7], assign := apAssign, body := apBody, defers := D }
theorem infoLn : (Tryd.prog.info? 104).map (fun i => (i.zero, i.size, i.bytes)) = some (some (.agg #[.int .i64 0, .int .i64 0, .int .i64 0]), 3, 24) := by kernel_rfl
set_option maxRecDepth 100000 in
set_option maxHeartbeats 2000000 in
theorem apYield (base : World) (fn : FuncId) (sv : Value) (Bs l D : Nat) (hBl : Bs ≠ l) (hDl : D ≠ l) (hDB : D ≠ Bs) (h0B : base.heap.size ≤ Bs) (h0l : base.heap.size ≤ l)
    (N : Nat) (hN : N ≤ maxLen) (hNb : N * 24 ≤ 140737488355328) (xs : List Value) (n : Nat) (x : Nat × Nat × Nat) (W : World) (h : Coll base 101 104 3 (apRec fn sv Bs D .ready none) Bs l D xs n W) (hlen : n < N) :
    YieldAt Fence.wide 0 Tryd.prog l #[encLn x] W fun e W' => e = .returned (.bool true) ∧ Coll base 101 104 3 (apRec fn sv Bs D .ready none) Bs l D (xs ++ cellLn x) (n + 1) W' ∧ Kept (CollT 101 Bs l D) W W' := by
  obtain ⟨i0, hi, hz0, hz1, hz2⟩ := info_parts infoLn
  obtain ⟨v, hv, hrow, _⟩ := h.box
  refine ⟨fn, #[.slice none 0 0, sv, .pointer (some ⟨Bs, 0, none⟩), undef, .slice none 0 0, undef, sv, encLn x, undef, undef, undef, undef, undef], apAssign, apBody, by simpa [apRec] using run_yield (P := Tryd.prog) (args := #[encLn x]) h.L rfl, roundIn_of_wpIn trivial ?_⟩
  have hl : l < W.heap.size := (Array.getElem?_eq_some_iff.1 h.L).1
  unfold apAssign encLn
  gi_wp2_with (rw [Oper.semAt_eq _ _ _ (fun c h => by cases h)]; go_simp; try go_bits)
  obtain ⟨Wa, hWa⟩ : ∃ Wa, W.alloc (.cells #[.int .i64 x.1, .int .i64 x.2.1, .int .i64 x.2.2] 104) = Wa := ⟨_, rfl⟩
  have hsa : Wa.heap.size = W.heap.size + 1 := by rw [← hWa]; simp
  have hga : W.grownBy Wa none := by rw [← hWa]; exact World.grownBy_alloc _ _ _
  have hxa : Wa.heap[W.heap.size]? = some (.cells #[.int .i64 x.1, .int .i64 x.2.1, .int .i64 x.2.2] 104 (0, 0)) := by rw [← hWa]; exact World.alloc_heap_new W _
  rw [hWa]
  clear hWa
  have hLa := (hga.block l hl (by simp)).trans h.L
  have hla : l < Wa.heap.size := by omega
  have hbr := run_beginRound (P := Tryd.prog) hLa rfl
  obtain ⟨W2, hW2⟩ : ∃ W2, Wa.putObj l (.loop { apRec fn sv Bs D .ready none with state := .busy }) = W2 := ⟨_, rfl⟩
  rw [hW2] at hbr
  have hga2 : Wa.grownBy W2 (some l) := by rw [← hW2]; exact grownBy_putObj _ _ _
  have hs2 : W2.heap.size = W.heap.size + 1 := by rw [← hW2]; simp [World.putObj, hsa]
  have hva : Boxed Wa Bs 101 v := hv.kept hga (by simp)
  have hv2 : Boxed W2 Bs 101 v := hva.kept hga2 (by simpa using hBl)
  have hxlt : W.heap.size < Wa.heap.size := by omega
  have hxl : W.heap.size ≠ l := by omega
  have hx2 : W2.heap[W.heap.size]? = some (.cells #[.int .i64 x.1, .int .i64 x.2.1, .int .i64 x.2.2] 104 (0, 0)) := (hga2.block _ hxlt (by simpa using hxl)).trans hxa
  have hKl : D < W.heap.size := (Array.getElem?_eq_some_iff.1 h.K).1
  have hK2 : W2.heap[D]? = some (.deferred (some [])) := (hga2.block D (by omega) (by simpa using hDl)).trans ((hga.block D hKl (by simp)).trans h.K)
  have hL2 : W2.heap[l]? = some (.loop { apRec fn sv Bs D .ready none with state := .busy }) := by rw [← hW2]; exact World.putObj_heap_same hla
  have hrowa : Wa.ownsRow base.heap.size 104 3 v n xs := hrow.kept hga (by cases v.ownBlock <;> simp)
  have hrow2 : W2.ownsRow base.heap.size 104 3 v n xs := hrowa.kept hga2 (ownsRow_ne hrowa hLa (fun cur e => by cases e))
  have hb2 : Below base.heap.size base W2 := (h.below.grown hga h.below.size (fun k e => by cases e)).grown hga2 (by have := h.below.size; omega) (fun k e => by cases e; exact h0l)
  have hc2 := hv2.cell
  have hf2 := hv2.frozen
  have hx20 : W2.cell? ⟨W.heap.size, 0, none⟩ = some (.int .i64 x.1) := by simp [World.cell?, hx2]
  have hx21 : W2.cell? ⟨W.heap.size, 1, none⟩ = some (.int .i64 x.2.1) := by simp [World.cell?, hx2]
  have hx22 : W2.cell? ⟨W.heap.size, 2, none⟩ = some (.int .i64 x.2.2) := by simp [World.cell?, hx2]
  clear hW2
  have HS2 : Hid (W2.heap.size = W.heap.size + 1) := hs2
  clear hs2
  refine ⟨W2, hbr, ?_⟩
  unfold apBody
  gi_wp2_with (first
    | (gi_at_builtin; refine wpListIn_append_where _ rfl _ _ 101 rfl base.heap.size 104 i0 (.agg #[.int .i64 0, .int .i64 0, .int .i64 0]) 3 24 Tryd.underlying101 hi hz0 hz1 hz2 rfl (by decide) _ _ _ rfl (hrow2.alloc _) ⟨W2.heap.size, 0, none⟩ 1 1 (cellLn x) rfl rfl (by decide) ?c1 ?c2 ?c3 ?c4 ?c5 ?_
       case c1 => intro j u hu; rw [Addr.add_lit]; have := World.alloc_heap_new W2 (.cells #[.int .i64 x.1, .int .i64 x.2.1, .int .i64 x.2.2] 104); simp only [World.cell?, Nat.zero_add]; rw [this]; exact (by simpa [cellLn] using hu)
       case c2 => intro u hu; simp [cellLn] at hu; rcases hu with rfl | rfl | rfl <;> rfl
       case c3 => omega
       case c4 => omega
       case c5 => have := hb2.size; simp; omega
       intro v' w3 hown' hg3 hwh
       have hv2a := hv2.alloc (.cells #[.int .i64 x.1, .int .i64 x.2.1, .int .i64 x.2.2] 104)
       have hv3 : Boxed w3 Bs 101 v := hv2a.kept hg3 (hv2.not_row (by decide) hrow2)
       have hc3 := hv3.cell
       have hf3 := hv3.frozen
       obtain ⟨g', cap', rfl⟩ := ownsRow_succ hown'
       simp only [Act.put, List.setIfInBounds_toArray, List.set_cons_succ, List.set_cons_zero])
    | (rw [Oper.semAt_eq _ _ _ (fun c h => by cases h)]; go_simp; try go_bits))
  have hs2 := HS2.out
  have hg3' : (W2.alloc (.cells #[.int .i64 x.1, .int .i64 x.2.1, .int .i64 x.2.2] 104)).grownBy w3 v.ownBlock := hg3
  have ne_of : ∀ {j : Nat} {o : Obj}, W2.heap[j]? = some o → (∀ cur, o ≠ .cells cur 104 (0, 0)) → some j ≠ v.ownBlock := fun hj hno => by
    rcases ownsRow_ne hrow2 hj hno with e | e
    · rw [e]; simp
    · exact fun e' => e e'.symm
  have hl2 : l < W2.heap.size := by omega
  have hD2 : D < W2.heap.size := by omega
  have hL3 : w3.heap[l]? = some (.loop { apRec fn sv Bs D .ready none with state := .busy }) := (hg3'.block l (by simp; omega) (ne_of hL2 (fun cur e => by cases e))).trans ((Below.heap_alloc _ _ l hl2).trans hL2)
  have hK3 : w3.heap[D]? = some (.deferred (some [])) := (hg3'.block D (by simp; omega) (ne_of hK2 (fun cur e => by cases e))).trans ((Below.heap_alloc _ _ D hD2).trans hK2)
  have hs3 : W.heap.size + 2 ≤ w3.heap.size := by have := hg3'.size; simp at this; omega
  obtain ⟨w4, hw4⟩ : ∃ w4, w3.setCell ⟨Bs, 0, none⟩ (.slice (some ⟨g', 0, none⟩) (n + 1) cap') = w4 := ⟨_, rfl⟩
  rw [hw4]
  have hg4 : w3.grownBy w4 (some Bs) := by rw [← hw4]; exact grownBy_setCell _ _ _
  have hv4 : Boxed w4 Bs 101 (.slice (some ⟨g', 0, none⟩) (n + 1) cap') := by rw [← hw4]; exact hv3.set _
  have hL4 : w4.heap[l]? = some (.loop { apRec fn sv Bs D .ready none with state := .busy }) := (hg4.block l (Array.getElem?_eq_some_iff.1 hL3).1 (fun e => hBl (by cases e; rfl))).trans hL3
  have hK4 : w4.heap[D]? = some (.deferred (some [])) := (hg4.block D (Array.getElem?_eq_some_iff.1 hK3).1 (fun e => hDB (by cases e; rfl))).trans hK3
  have hrow4 := hown'.kept hg4 (.inr (hv3.not_row (by decide) hown').symm)
  have hs4 : w3.heap.size = w4.heap.size := by rw [← hw4]; simp [World.setCell]
  have hl4 : l < w4.heap.size := by omega
  have hb3 : Below base.heap.size base w3 := (hb2.alloc hb2.size _).grown hg3' (by have := hb2.size; simp; omega) (fun k e => (hrow2.lt k e).1)
  have hb4 : Below base.heap.size base w4 := hb3.grown hg4 hb3.size (fun k e => by cases e; exact h0B)
  clear hw4
  have hg5 : w4.grownBy (w4.putObj l (.loop { { apRec fn sv Bs D .ready none with state := .busy } with state := if (none : Option Code).isNone then .ready else .done, pending := none })) (some l) := grownBy_putObj _ _ _
  have hv5 := hv4.kept hg5 (by simpa using hBl)
  have hrow5 := hrow4.kept hg5 (ownsRow_ne hrow4 hL4 (fun cur e => by cases e))
  refine ⟨_, _, run_endRound none hL4, rfl, ⟨⟨_, hv5, hrow5, by simp⟩, World.putObj_heap_same hl4, (World.putObj_heap_other hDl).trans hK4, hb4.grown hg5 hb4.size (fun k e => by cases e; exact h0l)⟩, ?_, ?_⟩
  · exact Nat.le_trans (by omega) hg5.size
  · intro j hj hT
    have hjB : j ≠ Bs := fun e => hT ⟨hj, .inl e⟩
    have hjl : j ≠ l := fun e => hT ⟨hj, .inr (.inl e)⟩
    have hjD : j ≠ D := fun e => hT ⟨hj, .inr (.inr (.inl e))⟩
    have hjv : some j ≠ v.ownBlock := fun e => hT ⟨hj, .inr (.inr (.inr ⟨v, hv, e.symm⟩))⟩
    have e1 := hga.block j hj (by simp)
    have e2 := hga2.block j (by omega) (by simpa using hjl)
    have e3 := Below.heap_alloc W2 (.cells #[.int .i64 x.1, .int .i64 x.2.1, .int .i64 x.2.2] 104) j (by omega)
    have e4 := hg3'.block j (by simp; omega) hjv
    have e5 := hg4.block j (by omega) (by simpa using hjB)
    have e6 := hg5.block j (by omega) (by simpa using hjl)
    refine ⟨e6.trans (e5.trans (e4.trans (e3.trans (e2.trans e1)))), ?_⟩
    rintro ⟨_, h1 | h1 | h1 | ⟨v', hv', h1⟩⟩
    · exact hjB h1
    · exact hjl h1
    · exact hjD h1
    · have h3 := (show _ = _ from hv').symm.trans hv5
      simp at h3
      subst h3
      have hwh' : (some g' = v.ownBlock ∨ some g' = some (W2.alloc (.cells #[.int .i64 x.1, .int .i64 x.2.1, .int .i64 x.2.2] 104)).heap.size) := hwh
      have h1' : g' = j := by simpa [Value.ownBlock] using h1
      subst h1'
      rcases hwh' with e | e
      · exact hjv e
      · simp at e; omega
end Go.Proofs.YtemgbdncidgoiaaDoor
end
section
namespace Go.Proofs.YtemgbdncidgoiaaDoor
open Go.RowKit Go.Shelf Go.Rg
attribute [local go_sem] Oper.semAt_some
def cellsLn (xs : List (Nat × Nat × Nat)) : List Value := xs.flatMap cellLn
set_option maxRecDepth 100000 in
set_option maxHeartbeats 2000000 in
theorem appendSeq_in (g : Nat) (lb : Array Value) (eg : ∀ args w, (callFunc g args).run Tryd.prog w = .ok (.enter g args) w)
    (xs : List (Nat × Nat × Nat)) (hN : xs.length ≤ maxLen) (hNb : xs.length * 24 ≤ 140737488355328) (w : World) (hseq : Tells Tryd.prog g lb encLn xs w) :
    CallsIn Fence.wide 2 Tryd.prog 95 #[.slice none 0 0, .func (.func g) #[] lb] w fun e w' => ∃ v : Value, e = .returned v ∧ w'.ownsRow w.heap.size 104 3 v xs.length (cellsLn xs) ∧ Below w.heap.size w w' := by
  refine callsIn_of_wp_marks Tryd.func95 rfl trivial ?_ rfl
  simp only [Tryd.ntmps95, List.size_toArray, List.length_cons, List.length_nil, Nat.reduceAdd, Nat.reduceSub, Array.replicate_succ, Array.replicate_zero, List.push_toArray, List.append_toArray, List.nil_append, List.cons_append]
  gi_wp2
  refine wpIn_rangeFunc ?_
  intro fn hfn
  obtain ⟨W0, hW0⟩ : ∃ W0, w.alloc (.cells #[.slice none 0 0] 101) = W0 := ⟨_, rfl⟩
  have hs0 : W0.heap.size = w.heap.size + 1 := by rw [← hW0]; simp
  have hv0 : W0.heap[w.heap.size]? = some (.cells #[.slice none 0 0] 101 (0, 0)) := by rw [← hW0]; exact World.alloc_heap_new w _
  have hb0 : Below w.heap.size w W0 := by rw [← hW0]; exact (Below.refl _ w).alloc (Nat.le_refl _) _
  rw [hW0]
  obtain ⟨W1, hW1⟩ : ∃ W1, (W0.alloc (.deferred (some []))).alloc (.loop (apRec fn (.func (.func g) #[] lb) w.heap.size W0.heap.size .ready none)) = W1 := ⟨_, rfl⟩
  have hold : ∀ k, k < W0.heap.size → W1.heap[k]? = W0.heap[k]? := fun k hk => by
    rw [← hW1]; exact (Below.heap_alloc _ _ k (by simp; omega)).trans (Below.heap_alloc _ _ k hk)
  have hb1 : Below w.heap.size w W1 := by rw [← hW1]; exact (hb0.alloc hb0.size _).alloc (by have := hb0.size; simp; omega) _
  have hs1 : W1.heap.size = W0.heap.size + 2 := by rw [← hW1]; simp
  have hM : Coll w 101 104 3 (apRec fn (.func (.func g) #[] lb) w.heap.size W0.heap.size .ready none) w.heap.size (W0.heap.size + 1) W0.heap.size (cellsLn (xs.take 0)) 0 W1 :=
    ⟨⟨_, (hold w.heap.size (by omega)).trans hv0, ⟨rfl, .inl ⟨rfl, rfl⟩⟩, by simp⟩,
     by rw [← hW1]; have := World.alloc_heap_new (W0.alloc (.deferred (some []))) (.loop (apRec fn (.func (.func g) #[] lb) w.heap.size W0.heap.size .ready none)); rwa [World.size_alloc] at this,
     by rw [← hW1]; exact (Below.heap_alloc _ _ _ (by simp)).trans (World.alloc_heap_new W0 _), hb1⟩
  refine ⟨W0.heap.size + 1, [{ target := .collected W0.heap.size, args := #[] }], W1, { target := .fn (.func g) lb, args := #[.func (.yield (W0.heap.size + 1)) #[] #[]] }, W1, g,
    #[.func (.yield (W0.heap.size + 1)) #[] #[]] ++ lb, W1, ?_, ?_, ?_, ?_, fun h => by simp [Fence.wide] at h, ?_⟩
  · rw [← hW1]; exact run_enterLoop_outer _ _ _ _ _
  · simp [resolve, go_sem]
  · intro f' hf'; trivial
  · simp [invoke, go_sem, eg]
  · refine (hseq (W0.heap.size + 1) (fun i W => Coll w 101 104 3 (apRec fn (.func (.func g) #[] lb) w.heap.size W0.heap.size .ready none) w.heap.size (W0.heap.size + 1) W0.heap.size (cellsLn (xs.take i)) i W) (fun _ => False) (CollT 101 w.heap.size (W0.heap.size + 1) W0.heap.size) W1
      (coll_abides _ _ _ _ _ _ _ _ _) ?_ hM).mono ?_
    · intro i x W hx hJ
      have hi := (List.getElem?_eq_some_iff.1 hx).1
      have := apYield w fn (.func (.func g) #[] lb) w.heap.size (W0.heap.size + 1) W0.heap.size (by omega) (by omega) (by omega) (Nat.le_refl _) (by omega) xs.length hN hNb (cellsLn (xs.take i)) i x W hJ hi
      have e : cellsLn (xs.take (i + 1)) = cellsLn (xs.take i) ++ cellLn x := by
        rw [List.take_add_one, hx]
        simp [cellsLn]
      obtain ⟨fn', tmps', as', bd', hy, hR⟩ := this
      refine ⟨fn', tmps', as', bd', hy, hR.mono ?_⟩
      rintro e' W' ⟨rfl, hc, hk⟩
      exact .inl ⟨rfl, by dsimp only; rw [e]; exact hc, hk⟩
    rintro e W2 ⟨⟨v0, rfl⟩, h2⟩
    replace h2 := h2.resolve_right id
    rw [List.take_length] at h2
    obtain ⟨v, hv, hrow, hnil⟩ := h2.box
    have hend := run_endLoop (P := Tryd.prog) h2.L (by simp [apRec])
    obtain ⟨W3, hW3⟩ : ∃ W3, W2.putObj (W0.heap.size + 1) (.loop { apRec fn (.func (.func g) #[] lb) w.heap.size W0.heap.size .ready none with state := .exhausted }) = W3 := ⟨_, rfl⟩
    rw [hW3] at hend
    have hg3 : W2.grownBy W3 (some (W0.heap.size + 1)) := by rw [← hW3]; exact grownBy_putObj _ _ _
    have hv3 : Boxed W3 w.heap.size 101 v := hv.kept hg3 (by simp; omega)
    have hK3 : W3.heap[W0.heap.size]? = some (.deferred (some [])) := by rw [← hW3]; exact (World.putObj_heap_other (by omega)).trans h2.K
    have hrow3 := hrow.kept hg3 (ownsRow_ne hrow h2.L (fun cur e => by cases e))
    have hb3 : Below w.heap.size w W3 := h2.below.grown hg3 h2.below.size (fun k e => by cases e; omega)
    have hc3 := hv3.cell
    have hf3 := hv3.frozen
    clear hW3
    refine ⟨none, W3, hend, ?_⟩
    gi_wp2
    rw [← hs0]
    refine ⟨by simp, .inl ⟨_, _, rfl, run_takeDeferred hK3, ?_⟩⟩
    exact ⟨_, results_tmp rfl _ _ _, v, rfl, hrow3.kept (grownBy_putObj _ _ _) (ownsRow_ne hrow3 hK3 (fun cur e => by cases e)), hb3.grown (grownBy_putObj _ _ _) hb3.size (fun k e => by cases e; omega)⟩
set_option maxHeartbeats 1000000 in
theorem collect_in (g : Nat) (lb : Array Value) (eg : ∀ args w, (callFunc g args).run Tryd.prog w = .ok (.enter g args) w)
    (xs : List (Nat × Nat × Nat)) (hN : xs.length ≤ maxLen) (hNb : xs.length * 24 ≤ 140737488355328) (w : World) (hseq : Tells Tryd.prog g lb encLn xs w) :
    Calls Tryd.prog 74 #[.func (.func g) #[] lb] w fun e w' => ∃ v : Value, e = .returned v ∧ w'.ownsRow w.heap.size 104 3 v xs.length (cellsLn xs) ∧ Below w.heap.size w w' := by
  go_enter Tryd.func74, Tryd.ntmps74
  go_wp2_with (first | (go_at_call 95; refine (callsIn_wide.1 (appendSeq_in g lb eg xs hN hNb _ hseq)).mono ?_; rintro e w' ⟨v, rfl, hrow, hb⟩))
  go_ret
  exact ⟨v, rfl, hrow, hb⟩
end Go.Proofs.YtemgbdncidgoiaaDoor
end
section
namespace Go.Proofs.YtemgbdncidgoiaaDoor
open Go.RowKit Go.Shelf Go.Rg
theorem indexByte_at : ∀ {l : List UInt8} {c : UInt8} {o : Nat}, l[o]? = some c → (∀ k, k < o → l[k]? ≠ some c) → Lib.indexByte l c = o
  | [], _, o, h, _ => by simp at h
  | b :: l, c, 0, h, _ => by
    simp at h
    subst h
    simp [Lib.indexByte]
  | b :: l, c, o + 1, h, hn => by
    have h0 : b ≠ c := fun e => hn 0 (by omega) (by simp [e])
    have ih := indexByte_at (l := l) (o := o) (by simpa using h) fun k hk => by have := hn (k + 1) (by omega); simpa using this
    unfold Lib.indexByte
    have hb : (b == c) = false := by simpa using h0
    rw [hb, ih]
    have : ((o : Int) == -1) = false := by simp
    simp [this]
theorem indexByte_not : ∀ {l : List UInt8} {c : UInt8}, (∀ k, k < l.length → l[k]? ≠ some c) → Lib.indexByte l c = -1
  | [], _, _ => rfl
  | b :: l, c, hn => by
    have h0 : b ≠ c := fun e => hn 0 (by simp) (by simp [e])
    have ih := indexByte_not (l := l) (c := c) fun k hk => by have := hn (k + 1) (by simpa using hk); simpa using this
    unfold Lib.indexByte
    have hb : (b == c) = false := by simpa using h0
    simp [hb, ih]
set_option maxHeartbeats 1000000 in
theorem index97_c (w : World) (b off cap : Nat) (bs : List UInt8) (v : UInt8) (hc : ∀ j x, bs[j]? = some x → w.cell? ⟨b, off + j, none⟩ = some (.int .u8 x.toNat)) (hlen : bs.length < 9223372036854775807) :
    Calls Tryd.prog 97 #[.slice (some ⟨b, off, none⟩) bs.length cap, .int .u8 v.toNat] w fun e w' => e = .returned (.int .i64 (Lib.indexByte bs v)) ∧ w' = w := by
  have HC : Aside (∀ j x, bs[j]? = some x → w.cell? ⟨b, off + j, none⟩ = some (.int .u8 x.toNat)) := hc
  clear hc
  go_enter Tryd.func97, Tryd.ntmps97
  go_wp2
  go_loopg [8] bs.length (fun g s8 wr => ∃ k : Nat, s8 = .int .i64 k ∧ k ≤ bs.length ∧ g = bs.length - k ∧ wr = w ∧ Aside (∀ j, j < k → bs[j]? ≠ some v))
  case atStart => exact ⟨0, rfl, Nat.zero_le _, rfl, rfl, fun j hj => by omega⟩
  case round =>
    obtain ⟨k, rfl, hk, rfl, rfl, hn⟩ := hrel
    by_cases hlt : k < bs.length
    · have hltz : (k : Int) < (bs.length : Int) := by omega
      have hcx := HC.out k bs[k] (by simp [hlt])
      by_cases hv : bs[k] = v
      · have hq : ((v.toNat : Int) == (bs[k].toNat : Int)) = true := by rw [hv]; simp
        go_wp2
        go_ret
        have e := indexByte_at (o := k) (c := v) (l := bs) (by simp [hlt, hv]) hn.out
        exact ⟨by rw [e]; rfl, rfl⟩
      · have hq : ((v.toNat : Int) == (bs[k].toNat : Int)) = false := by
          have : v.toNat ≠ bs[k].toNat := fun e => hv (UInt8.toNat_inj.1 e.symm)
          exact beq_eq_false_iff_ne.2 (by omega)
        go_wp2
        go_roundg (bs.length - (k + 1))
        case measure => go_light; omega
        case rel =>
          go_light
          refine ⟨k + 1, by push_cast; rfl, by omega, by omega, rfl, fun j hj => ?_⟩
          rcases Nat.lt_or_ge j k with h | h
          · exact hn.out j h
          · obtain rfl : j = k := by omega
            simp [hlt, hv]
    · have hltz : ¬ ((k : Int) < (bs.length : Int)) := by omega
      go_wp2
      go_ret
      obtain rfl : k = bs.length := by omega
      have e := indexByte_not hn.out
      exact ⟨by rw [e]; rfl, rfl⟩
end Go.Proofs.YtemgbdncidgoiaaDoor
end
section
namespace Go.Proofs.YtemgbdncidgoiaaDoor
open Go.RowKit Go.Shelf Go.Rg
attribute [local go_sem] Oper.semAt_some
def linesG : Nat → Nat → List UInt8 → List (Nat × Nat × Nat)
  | 0, _, _ => []
  | n + 1, a, s => if s = [] then [] else if Lib.indexByte s 10 < 0 then [(a, a + s.length, a + s.length)] else
    (a, a + (if 0 < (Lib.indexByte s 10).toNat ∧ s[(Lib.indexByte s 10).toNat - 1]? = some 13 then (Lib.indexByte s 10).toNat - 1 else (Lib.indexByte s 10).toNat), a + (Lib.indexByte s 10).toNat + 1) ::
      linesG n (a + (Lib.indexByte s 10).toNat + 1) (s.drop ((Lib.indexByte s 10).toNat + 1))
def linesF (a : Nat) (s : List UInt8) : List (Nat × Nat × Nat) := linesG s.length a s
theorem linesG_more : ∀ (n m a : Nat) (s : List UInt8), s.length ≤ n → s.length ≤ m → linesG n a s = linesG m a s
  | 0, m, a, s, h, _ => by
    have : s = [] := List.eq_nil_of_length_eq_zero (by omega)
    subst this
    cases m <;> simp [linesG]
  | n + 1, 0, a, s, _, h => by
    have : s = [] := List.eq_nil_of_length_eq_zero (by omega)
    subst this
    simp [linesG]
  | n + 1, m + 1, a, s, h, h' => by
    simp only [linesG]
    by_cases hs : s = []
    · simp [hs]
    · rw [if_neg hs, if_neg hs]
      have hp : 0 < s.length := List.length_pos_iff.2 hs
      rw [linesG_more n m (a + (Lib.indexByte s 10).toNat + 1) (s.drop ((Lib.indexByte s 10).toNat + 1)) (by rw [List.length_drop]; omega) (by rw [List.length_drop]; omega)]
theorem linesF_nil (a : Nat) : linesF a [] = [] := rfl
theorem linesF_cons (a : Nat) (s : List UInt8) (hs : s ≠ []) : linesF a s = if Lib.indexByte s 10 < 0 then [(a, a + s.length, a + s.length)] else
    (a, a + (if 0 < (Lib.indexByte s 10).toNat ∧ s[(Lib.indexByte s 10).toNat - 1]? = some 13 then (Lib.indexByte s 10).toNat - 1 else (Lib.indexByte s 10).toNat), a + (Lib.indexByte s 10).toNat + 1) ::
      linesF (a + (Lib.indexByte s 10).toNat + 1) (s.drop ((Lib.indexByte s 10).toNat + 1)) := by
  have hp : 0 < s.length := List.length_pos_iff.2 hs
  obtain ⟨n, hn⟩ : ∃ n, s.length = n + 1 := ⟨s.length - 1, by omega⟩
  unfold linesF
  rw [hn]
  conv => lhs; unfold linesG
  rw [if_neg hs, linesG_more n _ _ (s.drop ((Lib.indexByte s 10).toNat + 1)) (by rw [List.length_drop]; omega) (Nat.le_refl _), hn]
set_option maxRecDepth 100000 in
set_option maxHeartbeats 4000000 in
theorem all1_tells (base : World) (S B b off cap fr to : Nat) (bs : List UInt8) (hft : fr ≤ to) (htl : to ≤ bs.length) (hcap : bs.length ≤ cap) (hmax : bs.length ≤ 9223372036854775000)
    (hs0 : base.cell? ⟨S, 0, none⟩ = some (.int .i64 fr)) (hs1 : base.cell? ⟨S, 1, none⟩ = some (.int .i64 to)) (hb0 : base.cell? ⟨B, 0, none⟩ = some (.slice (some ⟨b, off, none⟩) bs.length cap))
    (hc : ∀ j x, bs[j]? = some x → base.cell? ⟨b, off + j, none⟩ = some (.int .u8 x.toNat)) :
    Tells Tryd.prog 96 #[.pointer (some ⟨S, 0, none⟩), .pointer (some ⟨B, 0, none⟩)] encLn (linesF fr ((bs.take to).drop fr)) base := by
  intro l J Jx T W hab hR h0
  have HC : Aside (∀ j x, bs[j]? = some x → base.cell? ⟨b, off + j, none⟩ = some (.int .u8 x.toNat)) := hc
  clear hc
  have hob := hab.old 0 W h0
  have hS : S < base.heap.size := World.block_lt_of_cell? base _ hs0
  have hB : B < base.heap.size := World.block_lt_of_cell? base _ hb0
  have hS0 : W.cell? ⟨S, 0, none⟩ = some (.int .i64 fr) := (hob.cell (p := ⟨S, 0, none⟩) hS).trans hs0
  refine callsIn_of_wp Tryd.func96 rfl trivial ?_ rfl
  simp only [Tryd.ntmps96, List.size_toArray, List.length_cons, List.length_nil, Nat.reduceAdd, Nat.reduceSub, Array.replicate_succ, Array.replicate_zero, List.push_toArray, List.append_toArray, List.nil_append, List.cons_append]
  gi_wp2
  gi_loopw [4] (fun i wr => ∃ (a n : Nat), i = .int .i64 a ∧ fr ≤ a ∧ a ≤ to ∧ J n wr ∧ linesF a ((bs.take to).drop a) = (linesF fr ((bs.take to).drop fr)).drop n ∧ n ≤ (linesF fr ((bs.take to).drop fr)).length)
    (fun i _ => to - (intOf i).toNat)
  case atStart => exact ⟨fr, 0, rfl, Nat.le_refl _, hft, h0, by simp, Nat.zero_le _⟩
  case round =>
    obtain ⟨a, n, rfl, hfa, hat, hJ, hX, hnl⟩ := hrel
    have HX : Aside (linesF a ((bs.take to).drop a) = (linesF fr ((bs.take to).drop fr)).drop n ∧ n ≤ (linesF fr ((bs.take to).drop fr)).length) := ⟨hX, hnl⟩
    clear hX hnl
    have hor := hab.old n wr hJ
    have hS1 : wr.cell? ⟨S, 1, none⟩ = some (.int .i64 to) := (hor.cell (p := ⟨S, 1, none⟩) hS).trans hs1
    have hB0 : wr.cell? ⟨B, 0, none⟩ = some (.slice (some ⟨b, off, none⟩) bs.length cap) := (hor.cell (p := ⟨B, 0, none⟩) hB).trans hb0
    by_cases hlt : a < to
    · have hltz : (a : Int) < (to : Int) := by omega
      have c0 : (0 : Int) ≤ (a : Int) := by omega
      have c1 : (a : Int) ≤ (to : Int) := by omega
      have c2 : (to : Int) ≤ (cap : Int) := by omega
      generalize hseg : (bs.take to).drop a = seg at HX
      have hsl : seg.length = to - a := by rw [← hseg]; simp; omega
      have hcs : ∀ (w' : World), (∀ k, k < base.heap.size → w'.heap[k]? = base.heap[k]?) → ∀ j x, seg[j]? = some x → w'.cell? ⟨b, off + a + j, none⟩ = some (.int .u8 x.toNat) := by
        intro w' hw j x hx
        have h1 : bs[a + j]? = some x := by
          rw [← hseg, List.getElem?_drop, List.getElem?_take] at hx
          split at hx
          · exact hx
          · cases hx
        have h2 := HC.out (a + j) x h1
        have hb := World.block_lt_of_cell? base _ h2
        have h3 := hw b hb
        simp only [World.cell?] at h2 ⊢
        rw [h3, Nat.add_assoc]
        exact h2
      have HSL : Aside (seg.length = to - a) := hsl
      have HCS : Aside (∀ (w' : World), (∀ k, k < base.heap.size → w'.heap[k]? = base.heap[k]?) → ∀ j x, seg[j]? = some x → w'.cell? ⟨b, off + a + j, none⟩ = some (.int .u8 x.toNat)) := hcs
      clear hcs hsl
      have hBl : B < wr.heap.size := Nat.lt_of_lt_of_le hB hor.size
      have hSl : S < wr.heap.size := Nat.lt_of_lt_of_le hS hor.size
      have hB1 : ∀ cs, (wr.alloc (.cells cs 104)).cell? ⟨B, 0, none⟩ = some (.slice (some ⟨b, off, none⟩) bs.length cap) := fun cs => (World.cell?_of_block (Below.heap_alloc _ _ B hBl)).trans hB0
      have hS2 : ∀ cs, (wr.alloc (.cells cs 104)).cell? ⟨S, 1, none⟩ = some (.int .i64 to) := fun cs => (World.cell?_of_block (Below.heap_alloc _ _ S hSl)).trans hS1
      have hwa : ∀ cs k, k < base.heap.size → (wr.alloc (.cells cs 104)).heap[k]? = base.heap[k]? := fun cs k hk => (Below.heap_alloc _ _ k (Nat.lt_of_lt_of_le hk hor.size)).trans (hor.block k hk)
      have hidx : ∀ cs, CallsIn Fence.wide 0 Tryd.prog 97 #[.slice (some ⟨b, off + a, none⟩) (to - a) (cap - a), .int .u8 10] (wr.alloc (.cells cs 104)) fun e w' => e = .returned (.int .i64 (Lib.indexByte seg 10)) ∧ w' = wr.alloc (.cells cs 104) := by
        intro cs
        have := index97_c (wr.alloc (.cells cs 104)) b (off + a) (cap - a) seg 10 (HCS.out _ (hwa cs)) (by rw [HSL.out]; omega)
        rw [HSL.out] at this
        exact callsIn_wide.2 this
      have hsne : seg ≠ [] := fun e => by have := HSL.out; rw [e] at this; simp at this; omega
      have hxs := linesF_cons a seg hsne
      have fin : ∀ (e nx : Nat) (E N : Int) (rest : List (Nat × Nat × Nat)), E = e → N = nx → linesF a seg = (a, e, nx) :: rest →
          rest = (linesF fr ((bs.take to).drop fr)).drop (n + 1) ∧ n + 1 ≤ (linesF fr ((bs.take to).drop fr)).length ∧
          YieldAt Fence.wide 0 Tryd.prog l #[.agg #[.int .i64 a, .int .i64 E, .int .i64 N]] (wr.alloc (.cells #[.int .i64 a, .int .i64 E, .int .i64 N] 104)) fun e' W' =>
            (e' = .returned (.bool true) ∧ J (n + 1) W' ∧ W'.cell? ⟨wr.heap.size, 2, none⟩ = some (.int .i64 N)) ∨ (e' = .returned (.bool false) ∧ Jx W') := by
        intro e nx E N rest hE hN hl
        subst hE hN
        have h1 := HX.out.1
        rw [hl] at h1
        have hxx : (linesF fr ((bs.take to).drop fr))[n]? = some (a, e, nx) := by
          have h2 := congrArg (fun l => l[0]?) h1
          simp only [List.getElem?_drop, Nat.add_zero] at h2
          rw [← h2]
          rfl
        have hrest : rest = (linesF fr ((bs.take to).drop fr)).drop (n + 1) := by
          have h2 := congrArg (List.drop 1) h1
          rw [List.drop_drop] at h2
          exact h2
        refine ⟨hrest, (List.getElem?_eq_some_iff.1 hxx).1, ?_⟩
        have hga : wr.grownBy (wr.alloc (.cells #[.int .i64 a, .int .i64 e, .int .i64 nx] 104)) none := World.grownBy_alloc _ _ _
        have hst := hab.step n wr _ none hJ hga (fun r e => by cases e)
        have hTX : ¬ T (wr.alloc (.cells #[.int .i64 a, .int .i64 e, .int .i64 nx] 104)) wr.heap.size := fun h => Nat.lt_irrefl _ (hab.lt n wr _ hJ (hst.2 _ h))
        have hX2 : (wr.alloc (.cells #[.int .i64 a, .int .i64 e, .int .i64 nx] 104)).cell? ⟨wr.heap.size, 2, none⟩ = some (.int .i64 nx) := by simp
        have hXl : wr.heap.size < (wr.alloc (.cells #[.int .i64 a, .int .i64 e, .int .i64 nx] 104)).heap.size := by simp
        obtain ⟨fn, tmps, assign, body, hy, hRd⟩ := hR n (a, e, nx) _ hxx hst.1
        refine ⟨fn, tmps, assign, body, hy, hRd.mono ?_⟩
        rintro e' W3 (⟨rfl, hJ3, hk3⟩ | ⟨rfl, hJx3⟩)
        · exact .inl ⟨rfl, hJ3, (World.cell?_of_block (hk3.block _ hXl hTX).1).trans hX2⟩
        · exact .inr ⟨rfl, hJx3⟩
      by_cases hk : Lib.indexByte seg 10 < 0
      · have hk1 : Lib.indexByte seg 10 = -1 := by have := Lib.indexByte_ge seg 10; omega
        rw [hk1] at hidx
        rw [if_pos hk] at hxs
        obtain ⟨hr1, hr2, fn, tmps, assign, body, hy, hRd⟩ := fin to to to to [] rfl rfl (by rw [hxs, HSL.out]; congr 3 <;> omega)
        have HR1 := (show Hid _ from hr1)
        have HR2 := (show Hid _ from hr2)
        clear hxs hk hk1 hwa hsne fin hr1 hr2
        gi_wp2
        refine ⟨trivial, (hidx _).mono ?_⟩
        clear hidx
        rintro e w' ⟨rfl, rfl⟩
        gi_wp2
        refine hRd.mono ?_
        rintro e W3 (⟨rfl, hJ3, hX3⟩ | ⟨rfl, hJx3⟩)
        · gi_wp2
          go_roundw
          case rel =>
            refine ⟨to, n + 1, rfl, by omega, by omega, hJ3, ?_, HR2.out⟩
            have h3 : (bs.take to).drop to = [] := by simp
            rw [h3, linesF_nil]
            exact HR1.out
          case measure => simp [intOf]; omega
        · gi_wp2
          refine bodyPost_ret (results_none rfl _ _ _) rfl ?_
          exact ⟨⟨_, rfl⟩, .inr hJx3⟩
      · obtain ⟨q, hq⟩ : ∃ q : Nat, Lib.indexByte seg 10 = q := ⟨(Lib.indexByte seg 10).toNat, by omega⟩
        rw [hq] at hidx
        rw [if_neg hk, hq] at hxs
        have hq0 := Lib.indexByte_some hq
        have hql : q < seg.length := (List.getElem?_eq_some_iff.1 hq0.1).1
        have hqa : q < to - a := by rw [← HSL.out]; exact hql
        have hdr : seg.drop (q + 1) = (bs.take to).drop (a + q + 1) := by rw [← hseg, List.drop_drop, Nat.add_assoc]
        have hxs' : linesF a seg = (a, a + (if 0 < q ∧ seg[q - 1]? = some 13 then q - 1 else q), a + q + 1) :: linesF (a + q + 1) ((bs.take to).drop (a + q + 1)) := by rw [← hdr]; exact hxs
        have z1 : (0 : Int) ≤ (q : Int) := by omega
        by_cases hq1 : 0 < q
        · have z2 : (0 : Int) < (q : Int) := by omega
          obtain ⟨y, hy0⟩ : ∃ y, seg[q - 1]? = some y := ⟨_, List.getElem?_eq_getElem (by omega)⟩
          have hcb : ∀ cs, (wr.alloc (.cells cs 104)).cell? ⟨b, off + (a + q - 1), none⟩ = some (.int .u8 y.toNat) := by
            intro cs
            have := HCS.out _ (hwa cs) (q - 1) y hy0
            rw [show off + (a + q - 1) = off + a + (q - 1) by omega]
            exact this
          by_cases h13 : y = 13
          · have hq13 : ((y.toNat : Int) == 13) = true := by rw [h13]; rfl
            obtain ⟨hr1, hr2, fn, tmps, assign, body, hy, hRd⟩ := fin (a + (q - 1)) (a + q + 1) (a + q - 1) (a + q + 1) _ (by omega) (by omega) (by rw [hxs', if_pos ⟨hq1, by rw [hy0, h13]⟩])
            have HR1 := (show Hid _ from hr1)
            have HR2 := (show Hid _ from hr2)
            clear hxs hxs' hk hwa hsne fin hr1 hr2 hq hq0 hql hdr hy0 h13
            gi_wp2
            refine ⟨trivial, (hidx _).mono ?_⟩
            clear hidx
            rintro e w' ⟨rfl, rfl⟩
            gi_wp2
            refine hRd.mono ?_
            rintro e W3 (⟨rfl, hJ3, hX3⟩ | ⟨rfl, hJx3⟩)
            · gi_wp2
              go_roundw
              case rel => exact ⟨a + q + 1, n + 1, by push_cast; rfl, by omega, by omega, hJ3, HR1.out, HR2.out⟩
              case measure => simp [intOf]; omega
            · gi_wp2
              refine bodyPost_ret (results_none rfl _ _ _) rfl ?_
              exact ⟨⟨_, rfl⟩, .inr hJx3⟩
          · have h13' : y.toNat ≠ 13 := fun e => h13 (UInt8.toNat_inj.1 e)
            have hq13 : ((y.toNat : Int) == 13) = false := beq_eq_false_iff_ne.2 (by omega)
            obtain ⟨hr1, hr2, fn, tmps, assign, body, hy, hRd⟩ := fin (a + q) (a + q + 1) (a + q) (a + q + 1) _ (by omega) (by omega) (by rw [hxs', if_neg (by rw [hy0]; simp; intro _; exact h13)])
            have HR1 := (show Hid _ from hr1)
            have HR2 := (show Hid _ from hr2)
            clear hxs hxs' hk hwa hsne fin hr1 hr2 hq hq0 hql hdr hy0 h13
            gi_wp2
            refine ⟨trivial, (hidx _).mono ?_⟩
            clear hidx
            rintro e w' ⟨rfl, rfl⟩
            gi_wp2
            refine hRd.mono ?_
            rintro e W3 (⟨rfl, hJ3, hX3⟩ | ⟨rfl, hJx3⟩)
            · gi_wp2
              go_roundw
              case rel => exact ⟨a + q + 1, n + 1, by push_cast; rfl, by omega, by omega, hJ3, HR1.out, HR2.out⟩
              case measure => simp [intOf]; omega
            · gi_wp2
              refine bodyPost_ret (results_none rfl _ _ _) rfl ?_
              exact ⟨⟨_, rfl⟩, .inr hJx3⟩
        · have z2 : ¬ (0 : Int) < (q : Int) := by omega
          obtain ⟨hr1, hr2, fn, tmps, assign, body, hy, hRd⟩ := fin (a + q) (a + q + 1) (a + q) (a + q + 1) _ (by omega) (by omega) (by rw [hxs', if_neg (fun h => hq1 h.1)])
          have HR1 := (show Hid _ from hr1)
          have HR2 := (show Hid _ from hr2)
          clear hxs hxs' hk hwa hsne fin hr1 hr2 hq hq0 hql hdr
          gi_wp2
          refine ⟨trivial, (hidx _).mono ?_⟩
          clear hidx
          rintro e w' ⟨rfl, rfl⟩
          gi_wp2
          refine hRd.mono ?_
          rintro e W3 (⟨rfl, hJ3, hX3⟩ | ⟨rfl, hJx3⟩)
          · gi_wp2
            go_roundw
            case rel => exact ⟨a + q + 1, n + 1, by push_cast; rfl, by omega, by omega, hJ3, HR1.out, HR2.out⟩
            case measure => simp [intOf]; omega
          · gi_wp2
            refine bodyPost_ret (results_none rfl _ _ _) rfl ?_
            exact ⟨⟨_, rfl⟩, .inr hJx3⟩
    · have hltz : ¬ ((a : Int) < (to : Int)) := by omega
      gi_wp2
      go_end0
      obtain rfl : a = to := by omega
      have h1 := HX.out.1
      have h3 : (bs.take a).drop a = [] := by simp
      rw [h3, linesF_nil] at h1
      have h2 : (linesF fr ((bs.take a).drop fr)).length ≤ n := List.drop_eq_nil_iff.1 h1.symm
      have h4 := HX.out.2
      have : n = (linesF fr ((bs.take a).drop fr)).length := by omega
      rw [← this]
      exact ⟨⟨_, rfl⟩, .inl hJ⟩
end Go.Proofs.YtemgbdncidgoiaaDoor
end
section
namespace Go.Proofs.YtemgbdncidgoiaaDoor
open Go.RowKit Go.Shelf Go.Rg
set_option maxRecDepth 100000 in
set_option maxHeartbeats 1000000 in
theorem all1_none (base : World) (S : Nat) (x : Value) (fr to : Int) (hft : ¬ fr < to)
    (hs0 : base.cell? ⟨S, 0, none⟩ = some (.int .i64 fr)) (hs1 : base.cell? ⟨S, 1, none⟩ = some (.int .i64 to)) :
    Tells Tryd.prog 96 #[.pointer (some ⟨S, 0, none⟩), x] encLn [] base := by
  intro l J Jx T W hab hR h0
  have hob := hab.old 0 W h0
  have hS : S < base.heap.size := World.block_lt_of_cell? base _ hs0
  have hS0 : W.cell? ⟨S, 0, none⟩ = some (.int .i64 fr) := (hob.cell (p := ⟨S, 0, none⟩) hS).trans hs0
  have hS1 : W.cell? ⟨S, 1, none⟩ = some (.int .i64 to) := (hob.cell (p := ⟨S, 1, none⟩) hS).trans hs1
  refine callsIn_of_wp Tryd.func96 rfl trivial ?_ rfl
  simp only [Tryd.ntmps96, List.size_toArray, List.length_cons, List.length_nil, Nat.reduceAdd, Nat.reduceSub, Array.replicate_succ, Array.replicate_zero, List.push_toArray, List.append_toArray, List.nil_append, List.cons_append]
  gi_wp2
  gi_loopw [4] (fun i wr => i = .int .i64 fr ∧ wr = W) (fun _ _ => 0)
  case atStart => exact ⟨rfl, rfl⟩
  case round =>
    obtain ⟨rfl, rfl⟩ := hrel
    gi_wp2
    go_end0
    exact ⟨⟨_, rfl⟩, .inl h0⟩
set_option maxHeartbeats 1000000 in
theorem all_c (x : Value) (fr to : Int) (w : World) (hx : ∃ a l c, x = .slice a l c) : Calls Tryd.prog 75 #[x, .agg #[.int .i64 fr, .int .i64 to]] w fun e w' =>
    e = .returned (.func (.func 96) #[] #[.pointer (some ⟨w.heap.size + 1, 0, none⟩), .pointer (some ⟨w.heap.size, 0, none⟩)]) ∧ w' = (w.alloc (.cells #[x] 32)).alloc (.cells #[.int .i64 fr, .int .i64 to] 24) := by
  obtain ⟨a, l, c, rfl⟩ := hx
  go_enter Tryd.func75, Tryd.ntmps75
  go_wp2
  go_ret
  exact ⟨rfl, rfl⟩
set_option maxHeartbeats 1000000 in
theorem within_c (fr to n : Int) (w : World) : Calls Tryd.prog 73 #[.agg #[.int .i64 fr, .int .i64 to], .int .i64 n] w fun e w' =>
    e = .returned (.bool (decide (0 ≤ fr ∧ fr ≤ to ∧ to ≤ n))) ∧ w' = w.alloc (.cells #[.int .i64 fr, .int .i64 to] 24) := by
  by_cases h1 : 0 ≤ fr
  · by_cases h2 : fr ≤ to
    · by_cases h3 : to ≤ n
      · have e : decide (0 ≤ fr ∧ fr ≤ to ∧ to ≤ n) = true := by simp [h1, h2, h3]
        rw [e]
        go_enter Tryd.func73, Tryd.ntmps73
        go_wp2
        go_ret
        exact ⟨rfl, rfl⟩
      · have e : decide (0 ≤ fr ∧ fr ≤ to ∧ to ≤ n) = false := by simp [h3]
        rw [e]
        go_enter Tryd.func73, Tryd.ntmps73
        go_wp2
        go_ret
        exact ⟨rfl, rfl⟩
    · have e : decide (0 ≤ fr ∧ fr ≤ to ∧ to ≤ n) = false := by simp [h2]
      rw [e]
      go_enter Tryd.func73, Tryd.ntmps73
      go_wp2
      go_ret
      exact ⟨rfl, rfl⟩
  · have e : decide (0 ≤ fr ∧ fr ≤ to ∧ to ≤ n) = false := by simp [h1]
    rw [e]
    go_enter Tryd.func73, Tryd.ntmps73
    go_wp2
    go_ret
    exact ⟨rfl, rfl⟩
theorem cell_newB (W : World) (cs : Array Value) (t : TypeId) (n i : Nat) (v : Value) (h : W.heap.size = n) (hv : cs[i]? = some v) : (W.alloc (.cells cs t)).cell? ⟨n, i, none⟩ = some v := by
  subst h
  have := World.alloc_heap_new W (.cells cs t)
  simp only [World.cell?, this]
  exact hv
theorem linesG_length : ∀ (n a : Nat) (s : List UInt8), (linesG n a s).length ≤ s.length
  | 0, a, s => by simp [linesG]
  | n + 1, a, s => by
    unfold linesG
    split
    · simp
    · rename_i hs
      have hp : 0 < s.length := List.length_pos_iff.2 hs
      split
      · simp; omega
      · have := linesG_length n (a + (Lib.indexByte s 10).toNat + 1) (s.drop ((Lib.indexByte s 10).toNat + 1))
        rw [List.length_drop] at this
        simp only [List.length_cons]
        omega
def linesOf (fr to : Int) (bs : List UInt8) : List (Nat × Nat × Nat) := if 0 ≤ fr ∧ fr ≤ to ∧ to ≤ bs.length then linesF fr.toNat ((bs.take to.toNat).drop fr.toNat) else []
theorem linesOf_length (fr to : Int) (bs : List UInt8) : (linesOf fr to bs).length ≤ bs.length := by
  unfold linesOf
  split
  · exact Nat.le_trans (linesG_length _ _ _) (by simp; omega)
  · simp
set_option maxRecDepth 100000 in
set_option maxHeartbeats 1000000 in
theorem of_c (a : Option Addr) (cap : Nat) (bs : List UInt8) (fr to : Int) (w : World) (hcap : bs.length ≤ cap) (ha : a = none → cap = 0) (hmax : bs.length < 1099511627776)
    (hc : ∀ p, a = some p → bs ≠ [] → p.spot = none ∧ ∀ j x, bs[j]? = some x → w.cell? ⟨p.block, p.off + j, none⟩ = some (.int .u8 x.toNat)) :
    Calls Tryd.prog 55 #[.slice a bs.length cap, .agg #[.int .i64 fr, .int .i64 to]] w fun e w' =>
      ∃ v : Value, e = .returned v ∧ w'.ownsRow w.heap.size 104 3 v (linesOf fr to bs).length (cellsLn (linesOf fr to bs)) ∧ Below w.heap.size w w' := by
  have HC : Aside (∀ p, a = some p → bs ≠ [] → p.spot = none ∧ ∀ j x, bs[j]? = some x → w.cell? ⟨p.block, p.off + j, none⟩ = some (.int .u8 x.toNat)) := hc
  clear hc
  by_cases hin : 0 ≤ fr ∧ fr ≤ to ∧ to ≤ bs.length
  · have hd : decide (0 ≤ fr ∧ fr ≤ to ∧ to ≤ (bs.length : Int)) = true := by simpa using hin
    have hl : linesOf fr to bs = linesF fr.toNat ((bs.take to.toNat).drop fr.toNat) := by unfold linesOf; rw [if_pos hin]
    have hlen := linesOf_length fr to bs
    go_enter Tryd.func55, Tryd.ntmps55
    go_wp2_with (first
      | (go_at_call 73; refine (within_c fr to _ _).mono ?_; rintro e w' ⟨rfl, hw⟩; rw [hw, hd])
      | (go_at_call 75; refine (all_c _ fr to _ ⟨_, _, _, rfl⟩).mono ?_; rintro e w' ⟨rfl, hw⟩; rw [hw])
      | (go_at_call 74; refine (collect_in 96 _ (enters_of Tryd.func96 (by kernel_rfl) rfl) (linesOf fr to bs) ?c1 ?c2 _ ?c3).mono ?_))
    case c1 => unfold maxLen; omega
    case c2 => omega
    case c3 =>
      generalize hW : (((w.alloc (Obj.cells #[Value.int IntKind.i64 fr, Value.int IntKind.i64 to] 24)).alloc (Obj.cells #[Value.int IntKind.i64 fr, Value.int IntKind.i64 to] 24)).alloc (Obj.cells #[Value.slice a bs.length cap] 32)).alloc (Obj.cells #[Value.int IntKind.i64 fr, Value.int IntKind.i64 to] 24) = W
      have s0 : W.cell? ⟨w.heap.size + 1 + 1 + 1, 0, none⟩ = some (.int .i64 fr) := by rw [← hW]; exact cell_newB _ _ _ _ _ _ (by simp) rfl
      have s1 : W.cell? ⟨w.heap.size + 1 + 1 + 1, 1, none⟩ = some (.int .i64 to) := by rw [← hW]; exact cell_newB _ _ _ _ _ _ (by simp) rfl
      have b0 : W.cell? ⟨w.heap.size + 1 + 1, 0, none⟩ = some (.slice a bs.length cap) := by
        rw [← hW]
        refine (World.cell?_of_block (Below.heap_alloc _ _ _ (by simp))).trans ?_
        exact cell_newB _ _ _ _ _ _ (by simp) rfl
      have hold : ∀ k, k < w.heap.size → W.heap[k]? = w.heap[k]? := fun k hk => by
        rw [← hW]
        exact (Below.heap_alloc _ _ k (by simp; omega)).trans ((Below.heap_alloc _ _ k (by simp; omega)).trans ((Below.heap_alloc _ _ k (by simp; omega)).trans (Below.heap_alloc _ _ k hk)))
      by_cases hft : fr < to
      · have hbne : bs ≠ [] := fun e => by rw [e] at hin; simp at hin; omega
        cases ha0 : a with
        | none => have := ha ha0; have := List.length_pos_iff.2 hbne; omega
        | some p =>
          obtain ⟨hp1, hp2⟩ := HC.out p ha0 hbne
          obtain ⟨pb, po, ps⟩ := p
          simp only at hp1 hp2
          subst hp1
          rw [ha0] at b0
          obtain ⟨F, hF⟩ : ∃ F : Nat, fr = F := ⟨fr.toNat, by omega⟩
          obtain ⟨E, hE⟩ : ∃ E : Nat, to = E := ⟨to.toNat, by omega⟩
          rw [hl, hF, hE]
          rw [hF] at s0
          rw [hE] at s1
          exact all1_tells W (w.heap.size + 1 + 1 + 1) (w.heap.size + 1 + 1) pb po cap F E bs (by omega) (by omega) hcap (by omega) s0 s1 b0 (fun j x hx => by
            have h1 := hp2 j x hx
            have h2 := hold pb (World.block_lt_of_cell? w _ h1)
            simp only [World.cell?] at h1 ⊢
            rw [h2]; exact h1)
      · have he : linesOf fr to bs = [] := by
          rw [hl]
          have : fr = to := by omega
          rw [this]
          have h3 : (bs.take to.toNat).drop to.toNat = [] := by simp
          rw [h3]; rfl
        rw [he]
        exact all1_none W _ _ fr to hft s0 s1
    rintro e w' ⟨v, rfl, hrow, hb⟩
    go_wp2
    go_ret
    refine ⟨v, rfl, ownsRow_base hrow (by simp; omega), ?_⟩
    refine Below.trans ?_ (hb.mono (by simp; omega))
    exact ((((Below.refl _ w).alloc (Nat.le_refl _) _).alloc (by simp) _).alloc (by simp; omega) _).alloc (by simp; omega) _
  · have hd : decide (0 ≤ fr ∧ fr ≤ to ∧ to ≤ (bs.length : Int)) = false := by simpa using hin
    have hl : linesOf fr to bs = [] := by unfold linesOf; rw [if_neg hin]
    rw [hl]
    go_enter Tryd.func55, Tryd.ntmps55
    go_wp2_with (first
      | (go_at_call 73; refine (within_c fr to _ _).mono ?_; rintro e w' ⟨rfl, hw⟩; rw [hw, hd]))
    go_ret
    exact ⟨.slice none 0 0, rfl, World.ownsRow_nil _ _ _ _, ((Below.refl _ w).alloc (Nat.le_refl _) _).alloc (by simp) _⟩
end Go.Proofs.YtemgbdncidgoiaaDoor
end
section
namespace Go.Proofs.YtemgbdncidgoiaaDoor
open Go.Shelf Go.RowKit Go.Ev
theorem bldSize : (Tryd.prog.info? 152).map (·.size) = some 2 := by kernel_rfl
theorem bldLies : liesAt Tryd.prog Tryd.prog.depth 152 (2 / Tryd.prog.cellsOf 152) 0 152 1 = true := by kernel_rfl
theorem byteCells : Tryd.prog.cellsOf 5 = 1 := by kernel_rfl
set_option maxHeartbeats 1000000 in
set_option maxRecDepth 100000 in
theorem check_used (b : Nat) (w : World) (h0 : w.cell? ⟨b, 0, none⟩ = some (.pointer (some ⟨b, 0, none⟩))) :
    Calls Tryd.prog 108 #[.pointer (some ⟨b, 0, none⟩)] w fun e w' => e = .returned (.tuple #[]) ∧ w' = w := by
  obtain ⟨j, hj, _⟩ := Option.map_eq_some_iff.1 bldSize
  go_enter Tryd.func108, Tryd.ntmps108
  go_wp2
  rw [Lib.run_neq_ptr_same w _ Tryd.underlying150 hj]
  go_wp2
  go_end0
  exact ⟨rfl, rfl⟩
set_option maxHeartbeats 1000000 in
set_option maxRecDepth 100000 in
theorem check_fresh (b : Nat) (w : World) (h0 : w.cell? ⟨b, 0, none⟩ = some (.pointer none)) (hsh : w.shape? b = some (152, 2)) (hfz : w.frozen? ⟨b, 0, none⟩ = false) :
    Calls Tryd.prog 108 #[.pointer (some ⟨b, 0, none⟩)] w fun e w' => e = .returned (.tuple #[]) ∧ w' = w.setCell ⟨b, 0, none⟩ (.pointer (some ⟨b, 0, none⟩)) := by
  obtain ⟨j, hj, hjs⟩ := Option.map_eq_some_iff.1 bldSize
  go_enter Tryd.func108, Tryd.ntmps108
  go_wp2
  rw [Lib.run_to_unsafe w ⟨b, 0, none⟩ Tryd.underlying150 Tryd.underlying172 hj (by rw [hjs]; decide) hsh (Nat.zero_lt_succ 1)]
  simp only [Result.andThen]
  rw [Oper.upon_value]
  go_wp2
  rw [run_callFunc_extern Tryd.func117 (by kernel_rfl) (by kernel_rfl) (by kernel_rfl) (e := Extern.AbiNoEscape.same) (by kernel_rfl)]
  rw [Lib.run_noEscape]
  simp only [Result.andThen]
  rw [Oper.upon_value]
  go_wp2
  rw [Lib.run_from_unsafe w ⟨b, 0, none⟩ Tryd.underlying172 Tryd.underlying150 hj hsh bldLies]
  simp only [Result.andThen]
  rw [Oper.upon_value]
  go_wp2
  go_end0
  exact ⟨rfl, rfl⟩
set_option maxHeartbeats 2000000 in
set_option maxRecDepth 100000 in
theorem string_some (b g cap cells : Nat) (l : List UInt8) (w : World) (h0 : l ≠ []) (hc1 : w.cell? ⟨b, 1, none⟩ = some (.slice (some ⟨g, 0, none⟩) l.length cap)) (hn : l.length ≤ cap)
    (hsh : w.shape? g = some (5, cells)) (hcl : l.length ≤ cells) (hbig : l.length ≤ 9223372036854775807) (hcell : ∀ j x, l[j]? = some x → w.cell? ⟨g, j, none⟩ = some (.int .u8 x.toNat)) :
    Calls Tryd.prog 92 #[.pointer (some ⟨b, 0, none⟩)] w fun e w' => e = .returned (.string ⟨l.toArray⟩) ∧ w' = w.drew.freeze ⟨g, 0, none⟩ l.length := by
  have hl0 : l.length ≠ 0 := by simpa using h0
  have c1 : w.drew.cell? ⟨b, 1, none⟩ = some (.slice (some ⟨g, 0, none⟩) l.length cap) := hc1
  have hSD : (Builtin.unsafeSliceData_ #[32] 163 #[.slice (some ⟨g, 0, none⟩) l.length cap]).run Tryd.prog w.drew = .ok (.pointer (some ⟨g, 0, none⟩)) w.drew :=
    Lib.run_unsafeSliceData_row _ _ _ _ _ _ (by omega)
  have hUS : (Builtin.unsafeString_ #[163, 3] 9 #[.pointer (some ⟨g, 0, none⟩), .int .i64 l.length]).run Tryd.prog w.drew = .ok (.string ⟨l.toArray⟩) (w.drew.freeze ⟨g, 0, none⟩ l.length) := by
    refine Lib.run_unsafeString_row w.drew 163 3 9 5 Tryd.underlying163 byteCells g cells hsh l h0 hcl (by omega) ?_
    intro j x hx
    have := hcell j x hx
    rw [Addr.add_lit, Nat.zero_add]
    exact this
  go_enter Tryd.func92, Tryd.ntmps92
  go_wp2
  go_region
  all_goals (go_wp2; go_ret; exact ⟨rfl, rfl⟩)
theorem viewAt_ok {P : Program} {w : World} {b : Nat} (h : b < w.heap.size) : ∃ r, (viewAt b).run P w = .ok r w := by
  obtain ⟨o, ho⟩ : ∃ o, w.heap[b]? = some o := ⟨_, Array.getElem?_eq_getElem h⟩
  unfold viewAt
  cases hs : w.shape? b with
  | some sh => exact ⟨none, by simp [hs]⟩
  | none =>
    cases o with
    | cells c e fr => simp [World.shape?, ho] at hs
    | view p t =>
      have hg : (getObj b).run P w = .ok (.view p t) w := by simp [getObj, Sem.run, ho]
      exact ⟨_, by simp [hs, hg]; rfl⟩
    | _ =>
      have hg : ∃ x, (getObj b).run P w = .ok x w ∧ ∀ p t, x ≠ .view p t := ⟨_, by simp only [getObj, Sem.run, ho]; exact ⟨rfl, fun p t e => by cases e⟩⟩
      obtain ⟨x, hg, hx⟩ := hg
      refine ⟨none, ?_⟩
      simp [hs, hg]
set_option maxHeartbeats 2000000 in
set_option maxRecDepth 100000 in
theorem string_none (b cap : Nat) (a : Option Addr) (w : World) (hc1 : w.cell? ⟨b, 1, none⟩ = some (.slice a 0 cap)) (ha : ∀ p, a = some p → p.block < w.heap.size) :
    Calls Tryd.prog 92 #[.pointer (some ⟨b, 0, none⟩)] w fun e w' => e = .returned (.string ⟨#[]⟩) ∧ (w' = w.drew ∨ ∃ o, w' = w.drew.alloc o) := by
  have hUS : ∀ q W, (Builtin.unsafeString_ #[163, 3] 9 #[.pointer q, .int .i64 0]).run Tryd.prog W = .ok (.string .empty) W := fun q W => Lib.run_unsafeString_none W _ _ _ q
  have hbl : b < w.heap.size := World.block_lt_of_cell? w _ hc1
  have c1 : w.drew.cell? ⟨b, 1, none⟩ = some (.slice a 0 cap) := hc1
  have hSD : ∃ q W, (Builtin.unsafeSliceData_ #[32] 163 #[.slice a 0 cap]).run Tryd.prog w.drew = .ok (.pointer q) W ∧ (W = w.drew ∨ ∃ o, W = w.drew.alloc o) := by
    cases a with
    | none => exact ⟨none, _, rfl, .inl rfl⟩
    | some p =>
      by_cases h0 : cap = 0
      · subst h0
        obtain ⟨r, hr⟩ := viewAt_ok (P := Tryd.prog) (w := w.drew) (b := p.block) (ha p rfl)
        have hdef : Builtin.unsafeSliceData_ #[32] 163 #[.slice (some p) 0 0] =
            (do
              if (0 : Nat) ≠ 0 then pure (.pointer (some p))
              else if (← viewAt p.block).isSome then pure (.pointer (some p))
              else pure (.pointer (some ⟨← newObj (.view p (← elemOf 163)), 0, none⟩))) := rfl
        rw [hdef]
        cases r with
        | some r => exact ⟨some p, w.drew, by simp [hr], .inl rfl⟩
        | none => exact ⟨_, _, by simp [hr, elemOf, run_underlying Tryd.underlying163]; exact ⟨rfl, rfl⟩, .inr ⟨_, rfl⟩⟩
      · exact ⟨some p, w.drew, Lib.run_unsafeSliceData_row _ _ _ _ _ _ h0, .inl rfl⟩
  obtain ⟨q, W, hSD, hW⟩ := hSD
  have c2 : W.cell? ⟨b, 1, none⟩ = some (.slice a 0 cap) := by
    rcases hW with rfl | ⟨o, rfl⟩
    · exact c1
    · exact (World.cell?_of_block (Below.heap_alloc w.drew o b hbl)).trans c1
  go_enter Tryd.func92, Tryd.ntmps92
  go_wp2
  go_region
  all_goals (go_wp2; go_ret; exact ⟨rfl, hW⟩)
end Go.Proofs.YtemgbdncidgoiaaDoor
end
section
namespace Go.Ev
section
variable {c : Cfg} {E : Ent} {w w' : World} {G G' : Gh} {μ : List Nat} {env : List V} {tmps : List Value} {objs : List Ob}
theorem Sim.regrind (h : Sim c E w G μ env tmps objs) {g : Nat} (hg : g < E.w.heap.size → E.U g) (hfree : cnt g (zipF leaf3 env tmps) + cnt g (leafO w objs μ) + μ.count g = 0)
    (hk : ∀ k, k ≠ g → w'.heap[k]? = w.heap[k]?) (hcell : ∀ o, w'.cell? ⟨g, o, none⟩ = w.cell? ⟨g, o, none⟩) (hs : w'.heap.size = w.heap.size) (hos : w'.os = w.os) (hout : w'.output = w.output) (htape : w'.tape = w.tape) :
    Sim c E w' G μ env tmps objs := by
  have hseal : Seal w G w' G := ⟨fun b o _ => by
    by_cases hb : b = g
    · subst hb; exact hcell o
    · exact cell?_of_heap (hk b hb), fun _ => Nat.le_refl _, by omega⟩
  have hμ : ∀ b ∈ μ, b ≠ g := fun b hb e => by subst e; have := List.count_pos_iff.2 hb; omega
  have hO : leafO w' objs μ = leafO w objs μ := leafO_same objs μ fun b hb => hk b (hμ b hb)
  have hl : ∀ l ∈ zipF leaf3 env tmps ++ leafO w objs μ, l.a.block ≠ g := fun l hl e => by
    rw [List.mem_append] at hl
    rcases hl with hl | hl
    · have := cnt_pos.2 ⟨l, hl, e⟩; omega
    · have := cnt_pos.2 ⟨l, hl, e⟩; omega
  refine ⟨⟨h.inv.len, fun i v x hv hx => (h.inv.rep i v x hv hx).mono hseal, h.inv.olen, fun i o b ho hb => (h.inv.obs i o b ho hb).mono hseal (hk b (hμ b (List.mem_of_getElem? hb))),
    fun b => by rw [hO]; exact h.inv.one b, fun l hl' => ?_, fun b hb => ⟨by rw [hs]; exact (h.inv.mine b hb).1, (h.inv.mine b hb).2⟩, fun b hb => h.inv.none b (by omega)⟩,
    ⟨by rw [hs]; exact h.stp.size, h.stp.sealed.trans hseal, fun b hb hu => ?_, hos.trans h.stp.os, hout.trans h.stp.out, htape.trans h.stp.tape⟩, fun b hb hc => h.own b hb (by rw [hO] at hc; exact hc), h.pre⟩
  · rw [hO] at hl'
    exact (h.inv.ok l hl').same (hk _ (hl l hl')) rfl hseal
  · have hne : b ≠ g := fun e => hu (by subst e; exact hg hb)
    exact ⟨(hk b hne).trans (h.stp.keep b hb hu).1, (h.stp.keep b hb hu).2⟩
theorem Sim.begin_ {args : List V} {cargs : List Value} (hinv : Inv c w G μ args cargs objs) : Sim c (entry w G μ args cargs objs) w G μ args cargs objs :=
  ⟨hinv, ⟨Nat.le_refl _, Seal.refl w G, fun _ _ _ => ⟨rfl, rfl⟩, rfl, rfl, rfl⟩, fun b _ h => h, [], by simp [entry]⟩
def checkF : Fun
  | [.ref 0 0], [.cells [.opt 0 0, .lst 5 true xs]] => some (.tup [], [.cells [.opt 0 0, .lst 5 true xs]])
  | _, _ => none
def byteV : V → Bool
  | .int .u8 n => decide (0 ≤ n) && decide (n < 256)
  | _ => false
theorem byteV_all : ∀ {xs : List V}, xs.all byteV = true → ofBytes (bytesOf xs) = xs
  | [], _ => rfl
  | v :: xs, h => by
    simp only [List.all_cons, Bool.and_eq_true] at h
    have ih := byteV_all h.2
    cases v with
    | int k n =>
      cases k <;> simp [byteV] at h
      simp only [bytesOf, ofBytes, List.map_cons, V.getI] at ih ⊢
      rw [ih]
      congr 2
      have := h.1
      simp
      omega
    | _ => simp [byteV] at h
def textF : Fun
  | [.ref 0 0], [.cells [.opt 0 0, .lst 5 true xs]] => if xs.all byteV && decide (xs.length < 1099511627776) then some (.str (bytesOf xs), [.cells [.opt 0 0, .lst 5 false xs]]) else none
  | _, _ => none
end
end Go.Ev
namespace Go.Proofs.YtemgbdncidgoiaaDoor
open Go.Shelf Go.RowKit Go.Ev
theorem check_ok {c : Cfg} (hP : c.P = Tryd.prog) (hb : ∀ t, c.bld t = true → t = 152) (hcut : c.cutO 108 = false)
    (hr : ∀ fn rsh, c.fn 108 = some fn → rshOf c 108 fn = some rsh → fitsRes rsh (.tup []) = true) : FunOk c 108 checkF := by
  have hF : ∀ args objs v objs', checkF args objs = some (v, objs') → ∃ xs, args = [.ref 0 0] ∧ objs = [.cells [.opt 0 0, .lst 5 true xs]] ∧ v = .tup [] ∧ objs' = objs := by
    intro args objs v objs' h
    unfold checkF at h
    split at h
    · cases h; exact ⟨_, rfl, rfl, rfl, rfl⟩
    · cases h
  refine ⟨fun args objs v objs' _ h => ?_, fun fn rsh hfn hrsh args objs v objs' h w G μ cargs hlen hinv => ?_⟩
  · obtain ⟨_, _, _, _, e⟩ := hF _ _ _ _ h
    exact e
  · obtain ⟨xs, rfl, rfl, rfl, rfl⟩ := hF _ _ _ _ h
    refine ⟨hr fn rsh hfn hrsh, ?_, ?_⟩
    · simp [Cfg.osh, hcut, OSh.of, fitsObs, OSh.fits, CSh.of, fitsCells, CSh.fits]
    · have hol := hinv.olen
      obtain ⟨b, rfl⟩ : ∃ b, μ = [b] := by
        match μ, hol with
        | [b], _ => exact ⟨b, rfl⟩
      have hsim := Sim.begin_ hinv
      obtain ⟨x, rfl⟩ : ∃ x, cargs = [x] := by
        match cargs, hlen with
        | [x], _ => exact ⟨x, rfl⟩
      obtain ⟨b', hb', rfl⟩ := ref_of (hinv.rep 0 _ _ rfl rfl) rfl
      simp at hb'
      subst hb'
      obtain ⟨l, elem, fr, h1, h2, h3, h4, h5, h6⟩ := hinv.obs 0 _ _ rfl rfl
      have hel := hb elem (h6 0 0 rfl)
      subst hel
      match l, h3 with
      | [x0, x1], _ =>
        have hr0 := h5 0 _ x0 rfl rfl
        have fin : ∀ w', Sim c (entry w G [b] [.ref 0 0] [.pointer (some ⟨b, 0, none⟩)] [.cells [.opt 0 0, .lst 5 true xs]]) w' G [b] [.ref 0 0] [.pointer (some ⟨b, 0, none⟩)] [.cells [.opt 0 0, .lst 5 true xs]] →
            Sim c (entry w G [b] [.ref 0 0] [.pointer (some ⟨b, 0, none⟩)] [.cells [.opt 0 0, .lst 5 true xs]]) w' G [b] [.tup []] [.tuple #[]] [.cells [.opt 0 0, .lst 5 true xs]] := fun w' hs =>
          (hs.push (v := .tup []) (x := .tuple #[]) (.tup [] [] rfl (fun i v x hv => by simp at hv)) rfl).firsts (fr := [.tup []]) (cfr := [.tuple #[]]) rfl
        have hx0 : x0 = .pointer none ∨ x0 = .pointer (some ⟨b, 0, none⟩) := by
          cases hr0 with
          | opt _ _ b' _ hb' hx => simp at hb'; subst hb'; exact hx
        have hc0 : w.cell? ⟨b, 0, none⟩ = some x0 := by simp [World.cell?, h1]
        rw [hP]
        rcases hx0 with rfl | rfl
        · have hsh : w.shape? b = some (152, 2) := by simp [World.shape?, h1]
          have hfz : w.frozen? ⟨b, 0, none⟩ = false := by
            have := h2 0 (by simp)
            simp [World.frozen?, h1]
            omega
          refine (check_fresh b w hc0 hsh hfz).mono ?_
          rintro e w' ⟨rfl, rfl⟩
          refine ⟨_, G, rfl, fin _ ?_⟩
          have hlt := heap_lt h1
          have hw : (w.setCell ⟨b, 0, none⟩ (.pointer (some ⟨b, 0, none⟩))).heap[b]? = some (.cells [.pointer (some ⟨b, 0, none⟩), x1].toArray 152 fr) := by
            simp only [World.setCell, Array.getElem?_modify, h1, if_true]
            rfl
          have hother : ∀ k, k ≠ b → (w.setCell ⟨b, 0, none⟩ (.pointer (some ⟨b, 0, none⟩))).heap[k]? = w.heap[k]? := fun k hk => Below.heap_setCell _ _ _ k hk
          have hG := (hinv.mine b (by simp)).2
          have hseal : Seal w G (w.setCell ⟨b, 0, none⟩ (.pointer (some ⟨b, 0, none⟩))) G := by
            refine ⟨fun k o ho => ?_, fun _ => Nat.le_refl _, by simp [World.setCell]⟩
            have : k ≠ b := fun e => by rw [e, hG] at ho; omega
            exact cell?_of_heap (hother k this)
          have := hsim.reob (i := 0) (b := b) (o := .cells [.opt 0 0, .lst 5 true xs]) (o' := .cells [.opt 0 0, .lst 5 true xs]) (w' := w.setCell ⟨b, 0, none⟩ (.pointer (some ⟨b, 0, none⟩)))
            (env' := [.ref 0 0]) (tmps' := [.pointer (some ⟨b, 0, none⟩)]) rfl rfl hother (by simp [World.setCell]) rfl rfl rfl (by simp) hinv.rep ?_ (fun q => ?_) (fun l hl => ?_)
          · exact this
          · refine ⟨[.pointer (some ⟨b, 0, none⟩), x1], _, fr, hw, h2, rfl, fun y hy => ?_, fun i v y hv hy => ?_, h6⟩
            · rcases List.mem_cons.1 hy with rfl | hy
              · rfl
              · exact h4 y (List.mem_cons_of_mem _ hy)
            · match i, hv, hy with
              | 0, hv, hy => simp at hv hy; subst hv; subst hy; exact .opt 0 0 b _ rfl (.inr rfl)
              | 1, hv, hy => simp at hv hy; subst hv; subst hy; exact (h5 1 _ x1 rfl rfl).mono hseal
          · have e1 : leafOb (w.setCell ⟨b, 0, none⟩ (.pointer (some ⟨b, 0, none⟩))) (.cells [.opt 0 0, .lst 5 true xs]) b = leafOb w (.cells [.opt 0 0, .lst 5 true xs]) b := by
              simp [leafOb, cellsAt, hw, h1, zipF, leaf1]
            rw [e1]; exact Nat.le_refl _
          · have e1 : leafOb (w.setCell ⟨b, 0, none⟩ (.pointer (some ⟨b, 0, none⟩))) (.cells [.opt 0 0, .lst 5 true xs]) b = leafOb w (.cells [.opt 0 0, .lst 5 true xs]) b := by
              simp [leafOb, cellsAt, hw, h1, zipF, leaf1]
            rw [e1] at hl; exact hl
        · refine (check_used b w hc0).mono ?_
          rintro e w' ⟨rfl, rfl⟩
          exact ⟨_, G, rfl, fin _ hsim⟩
theorem text_ok {c : Cfg} (hc : CfgOk c) (hP : c.P = Tryd.prog) (hcut : c.cutO 92 = true) (hsz : tySize c 5 = 1) (hro : c.ro 92 = false)
    (hr : ∀ fn rsh s, c.fn 92 = some fn → rshOf c 92 fn = some rsh → fitsRes rsh (.str s) = true) : FunOk c 92 textF := by
  have hF : ∀ args objs v objs', textF args objs = some (v, objs') → ∃ xs, args = [.ref 0 0] ∧ objs = [.cells [.opt 0 0, .lst 5 true xs]] ∧ v = .str (bytesOf xs) ∧ objs' = [.cells [.opt 0 0, .lst 5 false xs]] ∧
      xs.all byteV = true ∧ xs.length < 1099511627776 := by
    intro args objs v objs' h
    unfold textF at h
    split at h
    · split at h
      · rename_i hx
        simp only [Bool.and_eq_true, decide_eq_true_eq] at hx
        cases h
        exact ⟨_, rfl, rfl, rfl, rfl, hx⟩
      · cases h
    · cases h
  refine ⟨fun args objs v objs' hq h => ?_, fun fn rsh hfn hrsh args objs v objs' h w G μ cargs hlen hinv => ?_⟩
  · obtain ⟨xs, _, rfl, _⟩ := hF _ _ _ _ h
    rcases hq with hq | ⟨_, hq⟩
    · rw [hro] at hq; cases hq
    · cases hq
  · obtain ⟨xs, rfl, rfl, rfl, rfl, hby, hbig⟩ := hF _ _ _ _ h
    refine ⟨hr fn rsh _ hfn hrsh, ?_, ?_⟩
    · simp [Cfg.osh, hcut, OSh.of, OSh.soft, fitsObs, OSh.fits, CSh.of, CSh.soft, fitsCells, CSh.fits]
    · have hol := hinv.olen
      obtain ⟨b, rfl⟩ : ∃ b, μ = [b] := by
        match μ, hol with
        | [b], _ => exact ⟨b, rfl⟩
      have hsim := Sim.begin_ hinv
      obtain ⟨x, rfl⟩ : ∃ x, cargs = [x] := by
        match cargs, hlen with
        | [x], _ => exact ⟨x, rfl⟩
      obtain ⟨b', hb', rfl⟩ := ref_of (hinv.rep 0 _ _ rfl rfl) rfl
      simp at hb'
      subst hb'
      obtain ⟨l, elem, fr, h1, h2, h3, h4, h5, h6⟩ := hinv.obs 0 _ _ rfl rfl
      match l, h3 with
      | [x0, x1], _ =>
        obtain ⟨a, cap, lo, rfl, hl, hrr, hf, hs, hz, hcap, ha, hrow⟩ := lst_of (h5 1 _ x1 rfl rfl) rfl
        have hc1 : w.cell? ⟨b, 1, none⟩ = some (.slice a xs.length cap) := by simp [World.cell?, h1]
        have hcat : cellsAt w b = [x0, .slice a xs.length cap] := by unfold cellsAt; rw [h1]
        have hcutS : Sim c (entry w G [b] [.ref 0 0] [.pointer (some ⟨b, 0, none⟩)] [.cells [.opt 0 0, .lst 5 true xs]]) w G [b] [.ref 0 0] [.pointer (some ⟨b, 0, none⟩)] [.cells [.opt 0 0, .lst 5 false xs]] := by
          have := hsim.reob (i := 0) (b := b) (o := .cells [.opt 0 0, .lst 5 true xs]) (o' := .cells [.opt 0 0, .lst 5 false xs]) (w' := w)
            (env' := [.ref 0 0]) (tmps' := [.pointer (some ⟨b, 0, none⟩)]) rfl rfl (fun _ _ => rfl) rfl rfl rfl rfl (by simp) hinv.rep ?_ (fun q => ?_) (fun l hl => ?_)
          · exact this
          · refine ⟨[x0, .slice a xs.length cap], elem, fr, h1, h2, rfl, h4, fun i v y hv hy => ?_, h6⟩
            match i, hv, hy with
            | 0, hv, hy => simp at hv hy; subst hv; subst hy; exact h5 0 _ _ rfl rfl
            | 1, hv, hy => simp at hv hy; subst hv; subst hy; exact (h5 1 _ _ rfl rfl).cut1
          · have : leafOb w (.cells [.opt 0 0, .lst 5 false xs]) b = [] := by simp [leafOb, hcat, zipF, leaf1]
            rw [this]; simp [cnt]
          · have : leafOb w (.cells [.opt 0 0, .lst 5 false xs]) b = [] := by simp [leafOb, hcat, zipF, leaf1]
            rw [this] at hl
            rcases hl with hl | hl
            · exact .inl hl
            · cases hl
        have fin : ∀ w' G' s, Sim c (entry w G [b] [.ref 0 0] [.pointer (some ⟨b, 0, none⟩)] [.cells [.opt 0 0, .lst 5 true xs]]) w' G' [b] [.ref 0 0] [.pointer (some ⟨b, 0, none⟩)] [.cells [.opt 0 0, .lst 5 false xs]] →
            Sim c (entry w G [b] [.ref 0 0] [.pointer (some ⟨b, 0, none⟩)] [.cells [.opt 0 0, .lst 5 true xs]]) w' G' [b] [.str s] [.string ⟨s.toArray⟩] [.cells [.opt 0 0, .lst 5 false xs]] := fun w' G' s hs =>
          (hs.push (v := .str s) (x := .string ⟨s.toArray⟩) (.str s) rfl).firsts (fr := [.str s]) (cfr := [.string ⟨s.toArray⟩]) rfl
        rw [hP]
        by_cases hx0 : xs = []
        · subst hx0
          refine (string_none b cap a w hc1 ha.2).mono ?_
          rintro e w' ⟨rfl, hw⟩
          have hd := hcutS.ext (WExt.of_drew hinv.none)
          rcases hw with rfl | ⟨o, rfl⟩
          · exact ⟨_, G, rfl, fin _ _ [] hd⟩
          · exact ⟨_, _, rfl, fin _ _ [] (hd.ext (WExt.of_alloc (w := w.drew) (G := G) hd.inv.none o 0))⟩
        · have hpos : 0 < xs.length := List.length_pos_iff.2 hx0
          cases ha0 : a with
          | none => have := ha.1 ha0; omega
          | some p =>
            subst ha0
            have hmem : (⟨5, p, xs.length, cap, none⟩ : Leaf) ∈ leafO w [.cells [.opt 0 0, .lst 5 true xs]] [b] := by
              have hcp : 0 < cap := by omega
              simp [leafO, hcat, zipF, leaf1, hcp]
            obtain ⟨g1, cs, el, fr', g2, g3, g4, g5, g6, g7⟩ := hinv.ok _ (List.mem_append_right _ hmem)
            simp only at g1 g2 g4 g6 g7
            subst g6
            obtain ⟨pb, po, ps⟩ := p
            simp only at g1 g2 g4 g7
            subst g1; subst g7
            obtain ⟨_, hrow⟩ := hrow _ rfl hx0
            have hxb := byteV_all hby
            have hlo : lo = (bytesOf xs).map (fun b => Value.int .u8 b.toNat) := by
              apply List.ext_getElem?
              intro i
              by_cases hi : i < xs.length
              · have e1 : xs[i]? = (ofBytes (bytesOf xs))[i]? := by rw [hxb]
                have hbl : (bytesOf xs).length = xs.length := by simp [bytesOf]
                simp only [ofBytes, List.getElem?_map] at e1
                rw [List.getElem?_eq_getElem (by omega : i < (bytesOf xs).length)] at e1
                have := int_of (hrr i _ lo[i] e1 (List.getElem?_eq_getElem (by omega))) rfl
                rw [List.getElem?_eq_getElem (by omega : i < lo.length), this, List.getElem?_map, List.getElem?_eq_getElem (by omega : i < (bytesOf xs).length)]
                rfl
              · have hbl : (bytesOf xs).length = xs.length := by simp [bytesOf]
                rw [List.getElem?_eq_none (by omega), List.getElem?_eq_none (by simp; omega)]
            have hbl : (bytesOf xs).length = xs.length := by simp [bytesOf]
            have hcell : ∀ j x, (bytesOf xs)[j]? = some x → w.cell? ⟨pb, j, none⟩ = some (.int .u8 x.toNat) := by
              intro j x hj
              have := (hrow j (.int .u8 x.toNat) (by rw [hlo, flat_ints, List.getElem?_map, hj]; rfl)).1
              simpa using this
            rw [hsz] at g4
            rw [← hbl] at hc1
            refine (string_some b pb cap cs.size (bytesOf xs) w (fun e => by rw [e] at hbl; simp at hbl; omega) hc1 (by omega) (by simp [World.shape?, g2]) (by omega) (by omega) hcell).mono ?_
            rintro e w' ⟨rfl, rfl⟩
            refine ⟨_, G, rfl, fin _ _ _ ?_⟩
            have hd := hcutS.ext (WExt.of_drew hinv.none)
            have hone := hinv.one pb
            have hcl : 0 < cnt pb (leafO w [.cells [.opt 0 0, .lst 5 true xs]] [b]) := cnt_pos.2 ⟨_, hmem, rfl⟩
            refine hd.regrind (g := pb) (fun _ => ?_) ?_ (fun k hk => ?_) (fun o => ?_) ?_ ?_ ?_ ?_
            · simp only [entry]; omega
            · have e0 : leafO w.drew [.cells [.opt 0 0, .lst 5 false xs]] [b] = [] := by
                have : cellsAt w.drew b = [x0, .slice (some ⟨pb, 0, none⟩) xs.length cap] := hcat
                simp [leafO, this, zipF, leaf1]
              rw [e0]
              have e1 : cnt pb (zipF leaf3 [V.ref 0 0] [Value.pointer (some ⟨b, 0, none⟩)]) = 0 := rfl
              rw [e1] at hone ⊢
              simp only [cnt_nil]
              omega
            · unfold World.freeze
              split
              · rfl
              · simp only [Array.getElem?_modify]; rw [if_neg (fun e => hk e.symm)]
            · unfold World.freeze
              split
              · rfl
              · simp only [World.cell?, Array.getElem?_modify]
                have g2' : w.drew.heap[pb]? = some (.cells cs 5 fr') := g2
                rw [g2']
                rfl
            · unfold World.freeze; split <;> simp
            · unfold World.freeze; split <;> rfl
            · unfold World.freeze; split <;> rfl
            · unfold World.freeze; split <;> rfl
end Go.Proofs.YtemgbdncidgoiaaDoor
end
section
namespace Go.Proofs.YtemgbdncidgoiaaDoor
open Go.RowKit Go.Shelf Go.Rg Go.Lib
theorem infoBy : (Tryd.prog.info? 5).map (fun i => (i.zero, i.size, i.bytes)) = some (some (.int .u8 0), 1, 1) := by kernel_rfl
set_option maxRecDepth 100000 in
set_option maxHeartbeats 2000000 in
theorem clone_c (ad : Addr) (n c : Nat) (news : List Value) (w : World) (hl : news.length = n) (hn : n ≤ maxLen) (hbig : n ≤ 140737488355328)
    (hc : ∀ j u, news[j]? = some u → w.cell? (ad.add j) = some u) (h1 : ∀ u ∈ news, u.oneCell' = true) :
    Calls Tryd.prog 54 #[.slice (some ad) n c] w fun e w' => ∃ v', e = .returned v' ∧ w'.ownsRow w.heap.size 5 1 v' n news ∧ Below w.heap.size w w' := by
  obtain ⟨i0, hi, hz0, hz1, hz2⟩ := info_parts infoBy
  have q22 : ∀ (w : World) (a : Option Addr) (n c n' c' : Nat), (binOp .eql 32 (.slice a n c) (.slice none n' c')).run Tryd.prog w = .ok (.bool a.isNone) w := fun w a n c n' c' => Lib.run_eql_slice_nil w _ _ a n c n' c' Tryd.underlying32
  have A : Aside (∀ j u, news[j]? = some u → w.cell? (ad.add j) = some u) := hc
  clear hc
  go_enter Tryd.func54, Tryd.ntmps54
  go_wp2_with (at_builtin; refine wpList_append_own _ rfl _ _ 32 rfl w.heap.size 5 i0 (.int .u8 0) 1 1 Tryd.underlying32 hi hz0 hz1 hz2 rfl (by decide) _ _ _ rfl (World.ownsRow_made w #[] 0 (Nat.le_refl _) (Nat.zero_le _) (by simp)) ad n c news rfl ?qc1 ?qc2 ?qc3 ?qc4 ?qc5 ?qc6 ?_)
  case qc1 => rw [Nat.mul_one]; exact hl
  case qc2 =>
    intro j u hj
    exact Lib.cell?_alloc_some _ (A.out j u hj)
  case qc3 => exact h1
  case qc4 => rw [Nat.zero_add]; exact hn
  case qc5 => rw [Nat.zero_add, Nat.mul_one]; exact hbig
  case qc6 => simp
  intro v' w1 hown hgrow hnil
  go_wp2
  go_ret
  refine ⟨v', rfl, by simpa using hown, ?_⟩
  exact ((Below.refl _ w).alloc (Nat.le_refl _) _).grown hgrow (by simp) (by intro k hk; simp [Value.ownBlock] at hk; omega)
set_option maxHeartbeats 1000000 in
theorem clone_nil (n c : Nat) (w : World) : Calls Tryd.prog 54 #[.slice none n c] w fun e w' => e = .returned (.slice none 0 0) ∧ w' = w := by
  have q22 : ∀ (w : World) (a : Option Addr) (n c n' c' : Nat), (binOp .eql 32 (.slice a n c) (.slice none n' c')).run Tryd.prog w = .ok (.bool a.isNone) w := fun w a n c n' c' => Lib.run_eql_slice_nil w _ _ a n c n' c' Tryd.underlying32
  go_enter Tryd.func54, Tryd.ntmps54
  go_wp2
  go_ret
  exact ⟨rfl, rfl⟩
end Go.Proofs.YtemgbdncidgoiaaDoor
end
section
namespace Go.Proofs.YtemgbdncidgoiaaDoor
open Go.Ev Go
def cutV (p : Nat × Nat) : V := .agg [.int .i64 p.1, .int .i64 p.2]
inductive Pt
  | mk (kind : Nat) (head body : Nat × Nat) (kids : List Pt) (cuts : List (Nat × Nat)) (fin : Nat × Nat)
mutual
def partV : Pt → V
  | .mk k h b kids cuts e => .agg [.int .i64 (k : Nat), .int .i64 (h.1 : Nat), .int .i64 (h.2 : Nat), .int .i64 (b.1 : Nat), .int .i64 (b.2 : Nat), .lst 28 false (partVL kids), .lst 24 false (cuts.map cutV), .int .i64 (e.1 : Nat), .int .i64 (e.2 : Nat)]
def partVL : List Pt → List V
  | [] => []
  | p :: r => partV p :: partVL r
end
theorem partVL_eq : ∀ l : List Pt, partVL l = l.map partV
  | [] => rfl
  | p :: r => by rw [partVL, partVL_eq r]; rfl
theorem cutV_inj : ∀ l m : List (Nat × Nat), l.map cutV = m.map cutV → l = m
  | [], [], _ => rfl
  | [], _ :: _, h => by simp at h
  | _ :: _, [], h => by simp at h
  | (a, b) :: r, (c, d) :: m, h => by
    simp only [List.map_cons, List.cons.injEq, cutV, V.agg.injEq, V.int.injEq, true_and, and_true, Int.natCast_inj] at h
    obtain ⟨⟨rfl, rfl⟩, h⟩ := h
    rw [cutV_inj r m h]
mutual
theorem partV_inj : ∀ p q : Pt, partV p = partV q → p = q
  | .mk k h b kids cuts e, .mk k' h' b' kids' cuts' e', heq => by
    rw [partV, partV] at heq
    simp only [V.agg.injEq, List.cons.injEq, V.int.injEq, V.lst.injEq, true_and, and_true, Int.natCast_inj] at heq
    obtain ⟨rfl, h1, h2, h3, h4, h5, h6, h7, h8⟩ := heq
    have hk := partVL_inj kids kids' h5
    have hc := cutV_inj cuts cuts' h6
    subst hk hc
    obtain ⟨a1, a2⟩ := h; obtain ⟨c1, c2⟩ := h'; obtain ⟨a3, a4⟩ := b; obtain ⟨c3, c4⟩ := b'; obtain ⟨a5, a6⟩ := e; obtain ⟨c5, c6⟩ := e'
    simp_all
theorem partVL_inj : ∀ l m : List Pt, partVL l = partVL m → l = m
  | [], [], _ => rfl
  | [], _ :: _, h => by simp [partVL] at h
  | _ :: _, [], h => by simp [partVL] at h
  | p :: r, q :: m, h => by
    simp only [partVL, List.cons.injEq] at h
    rw [partV_inj p q h.1, partVL_inj r m h.2]
end
def zipT : List (Nat × Nat) → List (List (Nat × Nat × Nat)) → List (Nat × Nat × Nat)
  | c :: cs, t :: ts => (3, c.1, c.2) :: t ++ zipT cs ts
  | _, _ => []
mutual
def tilesP : Pt → List (Nat × Nat × Nat)
  | .mk k h b kids cuts e => (0, h.1, h.2) ::
    (if k = 1 then (2, b.1, if 0 < min cuts.length kids.length then (cuts.getD 0 (0, 0)).1 else e.1) :: (zipT cuts (tilesL kids) ++ [(4, e.1, e.2), (5, e.2, b.2)])
     else if k = 2 then (tilesL kids).headD [] else [(1, b.1, b.2)])
def tilesL : List Pt → List (List (Nat × Nat × Nat))
  | [] => []
  | p :: r => tilesP p :: tilesL r
end
def chainT : Int → List (Nat × Nat × Nat) → Option Int
  | a, [] => some a
  | a, t :: r => if (t.2.1 : Int) = a ∧ a ≤ (t.2.2 : Int) then chainT (t.2.2 : Nat) r else none
def errT (c d : Int) (ft : Bool) (a b n : Int) (ts : List (Nat × Nat × Nat)) : Int :=
  if c > 1000 ∨ d > 32 then 13 else if ft = false ∨ ¬ (a = 0 ∧ b = n) then 11 else if chainT 0 ts = some n then 0 else 11
noncomputable def tilesV (v : V) : Option (List (Nat × Nat × Nat)) :=
  open Classical in if h : ∃ p, v = partV p ∧ (tilesP p).length < 1099511627776 then some (tilesP h.choose) else none
theorem tilesV_some {v : V} {l : List (Nat × Nat × Nat)} (h : tilesV v = some l) : ∃ p, v = partV p ∧ (tilesP p).length < 1099511627776 ∧ l = tilesP p := by
  unfold tilesV at h
  split at h
  · rename_i hp
    cases h
    exact ⟨hp.choose, hp.choose_spec.1, hp.choose_spec.2, rfl⟩
  · cases h
theorem tilesV_of (p : Pt) (h : (tilesP p).length < 1099511627776) : tilesV (partV p) = some (tilesP p) := by
  have hp : ∃ q, partV p = partV q ∧ (tilesP q).length < 1099511627776 := ⟨p, rfl, h⟩
  unfold tilesV
  rw [dif_pos hp]
  exact congrArg (fun q => some (tilesP q)) (partV_inj _ _ hp.choose_spec.1).symm
end Go.Proofs.YtemgbdncidgoiaaDoor
end
section
namespace Go.Proofs.YtemgbdncidgoiaaDoor
open Go.RowKit Go.Shelf Go.Rg
attribute [local go_sem] Oper.semAt_some
noncomputable def tpAssign : Code := (Code.region 2 #[{ dst := some 5, op := Op.alloc 50, type := 0, pos := "iter.go:51", after := #[], guard := none }, { dst := none, op := Op.store 50 (Operand.tmp 5) (Operand.tmp 7), type := 0, pos := "iter.go:51", after := #[{ on := 0, ground := Ground.data }, { on := 0, ground := Ground.phase }], guard := none }] false)
noncomputable def tpBody : Code := (Code.block 1 (Code.region 3 #[{ dst := some 8, op := Op.load 47 (Operand.tmp 2), type := 47, pos := "iter.go:52", after := #[], guard := none }, { dst := some 9, op := Op.load 50 (Operand.tmp 5), type := 50, pos := "iter.go:52", after := #[], guard := none }, { dst := some 10, op := Op.buildSlice 47 1 #[(0, Operand.tmp 9)], type := 47, pos := "iter.go:52", after := #[{ on := 1, ground := Ground.data }], guard := none }, { dst := some 11, op := Op.call { callee := Callee.builtin Builtin.append, args := #[Operand.tmp 8, Operand.tmp 10], argTypes := #[47, 47] }, type := 47, pos := "iter.go:52", after := #[{ on := 0, ground := Ground.data }, { on := 2, ground := Ground.data }], guard := none }, { dst := none, op := Op.store 47 (Operand.tmp 2) (Operand.tmp 11), type := 0, pos := "iter.go:52", after := #[{ on := 3, ground := Ground.data }, { on := 3, ground := Ground.chain }, { on := 0, ground := Ground.phase }, { on := 1, ground := Ground.phase }, { on := 2, ground := Ground.phase }, { on := 3, ground := Ground.phase }], guard := none }] false))
noncomputable def tpRec (fn : FuncId) (sv : Value) (Bs D : Nat) (st : LoopState) (pend : Option Code) : Loop :=
  { state := st, pending := pend, fn, tmps := #[.slice none 0 0, sv, .pointer (some ⟨Bs, 0, none⟩), undef, .slice none 0 0, undef, sv, undef, undef, undef, undef, undef, undef], params := #[7], assign := tpAssign, body := tpBody, defers := D }
theorem infoTl : (Tryd.prog.info? 50).map (fun i => (i.zero, i.size, i.bytes)) = some (some (.agg #[.int .i64 0, .int .i64 0, .int .i64 0]), 3, 24) := by kernel_rfl
set_option maxRecDepth 100000 in
set_option maxHeartbeats 2000000 in
theorem tpYield (base : World) (fn : FuncId) (sv : Value) (Bs l D : Nat) (hBl : Bs ≠ l) (hDl : D ≠ l) (hDB : D ≠ Bs) (h0B : base.heap.size ≤ Bs) (h0l : base.heap.size ≤ l)
    (N : Nat) (hN : N ≤ maxLen) (hNb : N * 24 ≤ 140737488355328) (xs : List Value) (n : Nat) (x : Nat × Nat × Nat) (W : World) (h : Coll base 47 50 3 (tpRec fn sv Bs D .ready none) Bs l D xs n W) (hlen : n < N) :
    YieldAt Fence.wide 0 Tryd.prog l #[encLn x] W fun e W' => e = .returned (.bool true) ∧ Coll base 47 50 3 (tpRec fn sv Bs D .ready none) Bs l D (xs ++ cellLn x) (n + 1) W' ∧ Kept (CollT 47 Bs l D) W W' := by
  obtain ⟨i0, hi, hz0, hz1, hz2⟩ := info_parts infoTl
  obtain ⟨v, hv, hrow, _⟩ := h.box
  refine ⟨fn, #[.slice none 0 0, sv, .pointer (some ⟨Bs, 0, none⟩), undef, .slice none 0 0, undef, sv, encLn x, undef, undef, undef, undef, undef], tpAssign, tpBody, by simpa [tpRec] using run_yield (P := Tryd.prog) (args := #[encLn x]) h.L rfl, roundIn_of_wpIn trivial ?_⟩
  have hl : l < W.heap.size := (Array.getElem?_eq_some_iff.1 h.L).1
  unfold tpAssign encLn
  gi_wp2_with (rw [Oper.semAt_eq _ _ _ (fun c h => by cases h)]; go_simp; try go_bits)
  obtain ⟨Wa, hWa⟩ : ∃ Wa, W.alloc (.cells #[.int .i64 x.1, .int .i64 x.2.1, .int .i64 x.2.2] 50) = Wa := ⟨_, rfl⟩
  have hsa : Wa.heap.size = W.heap.size + 1 := by rw [← hWa]; simp
  have hga : W.grownBy Wa none := by rw [← hWa]; exact World.grownBy_alloc _ _ _
  have hxa : Wa.heap[W.heap.size]? = some (.cells #[.int .i64 x.1, .int .i64 x.2.1, .int .i64 x.2.2] 50 (0, 0)) := by rw [← hWa]; exact World.alloc_heap_new W _
  rw [hWa]
  clear hWa
  have hLa := (hga.block l hl (by simp)).trans h.L
  have hla : l < Wa.heap.size := by omega
  have hbr := run_beginRound (P := Tryd.prog) hLa rfl
  obtain ⟨W2, hW2⟩ : ∃ W2, Wa.putObj l (.loop { tpRec fn sv Bs D .ready none with state := .busy }) = W2 := ⟨_, rfl⟩
  rw [hW2] at hbr
  have hga2 : Wa.grownBy W2 (some l) := by rw [← hW2]; exact grownBy_putObj _ _ _
  have hs2 : W2.heap.size = W.heap.size + 1 := by rw [← hW2]; simp [World.putObj, hsa]
  have hva : Boxed Wa Bs 47 v := hv.kept hga (by simp)
  have hv2 : Boxed W2 Bs 47 v := hva.kept hga2 (by simpa using hBl)
  have hxlt : W.heap.size < Wa.heap.size := by omega
  have hxl : W.heap.size ≠ l := by omega
  have hx2 : W2.heap[W.heap.size]? = some (.cells #[.int .i64 x.1, .int .i64 x.2.1, .int .i64 x.2.2] 50 (0, 0)) := (hga2.block _ hxlt (by simpa using hxl)).trans hxa
  have hKl : D < W.heap.size := (Array.getElem?_eq_some_iff.1 h.K).1
  have hK2 : W2.heap[D]? = some (.deferred (some [])) := (hga2.block D (by omega) (by simpa using hDl)).trans ((hga.block D hKl (by simp)).trans h.K)
  have hL2 : W2.heap[l]? = some (.loop { tpRec fn sv Bs D .ready none with state := .busy }) := by rw [← hW2]; exact World.putObj_heap_same hla
  have hrowa : Wa.ownsRow base.heap.size 50 3 v n xs := hrow.kept hga (by cases v.ownBlock <;> simp)
  have hrow2 : W2.ownsRow base.heap.size 50 3 v n xs := hrowa.kept hga2 (ownsRow_ne hrowa hLa (fun cur e => by cases e))
  have hb2 : Below base.heap.size base W2 := (h.below.grown hga h.below.size (fun k e => by cases e)).grown hga2 (by have := h.below.size; omega) (fun k e => by cases e; exact h0l)
  have hc2 := hv2.cell
  have hf2 := hv2.frozen
  have hx20 : W2.cell? ⟨W.heap.size, 0, none⟩ = some (.int .i64 x.1) := by simp [World.cell?, hx2]
  have hx21 : W2.cell? ⟨W.heap.size, 1, none⟩ = some (.int .i64 x.2.1) := by simp [World.cell?, hx2]
  have hx22 : W2.cell? ⟨W.heap.size, 2, none⟩ = some (.int .i64 x.2.2) := by simp [World.cell?, hx2]
  clear hW2
  have HS2 : Hid (W2.heap.size = W.heap.size + 1) := hs2
  clear hs2
  refine ⟨W2, hbr, ?_⟩
  unfold tpBody
  gi_wp2_with (first
    | (gi_at_builtin; refine wpListIn_append_where _ rfl _ _ 47 rfl base.heap.size 50 i0 (.agg #[.int .i64 0, .int .i64 0, .int .i64 0]) 3 24 Tryd.underlying47 hi hz0 hz1 hz2 rfl (by decide) _ _ _ rfl (hrow2.alloc _) ⟨W2.heap.size, 0, none⟩ 1 1 (cellLn x) rfl rfl (by decide) ?c1 ?c2 ?c3 ?c4 ?c5 ?_
       case c1 => intro j u hu; rw [Addr.add_lit]; have := World.alloc_heap_new W2 (.cells #[.int .i64 x.1, .int .i64 x.2.1, .int .i64 x.2.2] 50); simp only [World.cell?, Nat.zero_add]; rw [this]; exact (by simpa [cellLn] using hu)
       case c2 => intro u hu; simp [cellLn] at hu; rcases hu with rfl | rfl | rfl <;> rfl
       case c3 => omega
       case c4 => omega
       case c5 => have := hb2.size; simp; omega
       intro v' w3 hown' hg3 hwh
       have hv2a := hv2.alloc (.cells #[.int .i64 x.1, .int .i64 x.2.1, .int .i64 x.2.2] 50)
       have hv3 : Boxed w3 Bs 47 v := hv2a.kept hg3 (hv2.not_row (by decide) hrow2)
       have hc3 := hv3.cell
       have hf3 := hv3.frozen
       obtain ⟨g', cap', rfl⟩ := ownsRow_succ hown'
       simp only [Act.put, List.setIfInBounds_toArray, List.set_cons_succ, List.set_cons_zero])
    | (rw [Oper.semAt_eq _ _ _ (fun c h => by cases h)]; go_simp; try go_bits))
  have hs2 := HS2.out
  have hg3' : (W2.alloc (.cells #[.int .i64 x.1, .int .i64 x.2.1, .int .i64 x.2.2] 50)).grownBy w3 v.ownBlock := hg3
  have ne_of : ∀ {j : Nat} {o : Obj}, W2.heap[j]? = some o → (∀ cur, o ≠ .cells cur 50 (0, 0)) → some j ≠ v.ownBlock := fun hj hno => by
    rcases ownsRow_ne hrow2 hj hno with e | e
    · rw [e]; simp
    · exact fun e' => e e'.symm
  have hl2 : l < W2.heap.size := by omega
  have hD2 : D < W2.heap.size := by omega
  have hL3 : w3.heap[l]? = some (.loop { tpRec fn sv Bs D .ready none with state := .busy }) := (hg3'.block l (by simp; omega) (ne_of hL2 (fun cur e => by cases e))).trans ((Below.heap_alloc _ _ l hl2).trans hL2)
  have hK3 : w3.heap[D]? = some (.deferred (some [])) := (hg3'.block D (by simp; omega) (ne_of hK2 (fun cur e => by cases e))).trans ((Below.heap_alloc _ _ D hD2).trans hK2)
  have hs3 : W.heap.size + 2 ≤ w3.heap.size := by have := hg3'.size; simp at this; omega
  obtain ⟨w4, hw4⟩ : ∃ w4, w3.setCell ⟨Bs, 0, none⟩ (.slice (some ⟨g', 0, none⟩) (n + 1) cap') = w4 := ⟨_, rfl⟩
  rw [hw4]
  have hg4 : w3.grownBy w4 (some Bs) := by rw [← hw4]; exact grownBy_setCell _ _ _
  have hv4 : Boxed w4 Bs 47 (.slice (some ⟨g', 0, none⟩) (n + 1) cap') := by rw [← hw4]; exact hv3.set _
  have hL4 : w4.heap[l]? = some (.loop { tpRec fn sv Bs D .ready none with state := .busy }) := (hg4.block l (Array.getElem?_eq_some_iff.1 hL3).1 (fun e => hBl (by cases e; rfl))).trans hL3
  have hK4 : w4.heap[D]? = some (.deferred (some [])) := (hg4.block D (Array.getElem?_eq_some_iff.1 hK3).1 (fun e => hDB (by cases e; rfl))).trans hK3
  have hrow4 := hown'.kept hg4 (.inr (hv3.not_row (by decide) hown').symm)
  have hs4 : w3.heap.size = w4.heap.size := by rw [← hw4]; simp [World.setCell]
  have hl4 : l < w4.heap.size := by omega
  have hb3 : Below base.heap.size base w3 := (hb2.alloc hb2.size _).grown hg3' (by have := hb2.size; simp; omega) (fun k e => (hrow2.lt k e).1)
  have hb4 : Below base.heap.size base w4 := hb3.grown hg4 hb3.size (fun k e => by cases e; exact h0B)
  clear hw4
  have hg5 : w4.grownBy (w4.putObj l (.loop { { tpRec fn sv Bs D .ready none with state := .busy } with state := if (none : Option Code).isNone then .ready else .done, pending := none })) (some l) := grownBy_putObj _ _ _
  have hv5 := hv4.kept hg5 (by simpa using hBl)
  have hrow5 := hrow4.kept hg5 (ownsRow_ne hrow4 hL4 (fun cur e => by cases e))
  refine ⟨_, _, run_endRound none hL4, rfl, ⟨⟨_, hv5, hrow5, by simp⟩, World.putObj_heap_same hl4, (World.putObj_heap_other hDl).trans hK4, hb4.grown hg5 hb4.size (fun k e => by cases e; exact h0l)⟩, ?_, ?_⟩
  · exact Nat.le_trans (by omega) hg5.size
  · intro j hj hT
    have hjB : j ≠ Bs := fun e => hT ⟨hj, .inl e⟩
    have hjl : j ≠ l := fun e => hT ⟨hj, .inr (.inl e)⟩
    have hjD : j ≠ D := fun e => hT ⟨hj, .inr (.inr (.inl e))⟩
    have hjv : some j ≠ v.ownBlock := fun e => hT ⟨hj, .inr (.inr (.inr ⟨v, hv, e.symm⟩))⟩
    have e1 := hga.block j hj (by simp)
    have e2 := hga2.block j (by omega) (by simpa using hjl)
    have e3 := Below.heap_alloc W2 (.cells #[.int .i64 x.1, .int .i64 x.2.1, .int .i64 x.2.2] 50) j (by omega)
    have e4 := hg3'.block j (by simp; omega) hjv
    have e5 := hg4.block j (by omega) (by simpa using hjB)
    have e6 := hg5.block j (by omega) (by simpa using hjl)
    refine ⟨e6.trans (e5.trans (e4.trans (e3.trans (e2.trans e1)))), ?_⟩
    rintro ⟨_, h1 | h1 | h1 | ⟨v', hv', h1⟩⟩
    · exact hjB h1
    · exact hjl h1
    · exact hjD h1
    · have h3 := (show _ = _ from hv').symm.trans hv5
      simp at h3
      subst h3
      have hwh' : (some g' = v.ownBlock ∨ some g' = some (W2.alloc (.cells #[.int .i64 x.1, .int .i64 x.2.1, .int .i64 x.2.2] 50)).heap.size) := hwh
      have h1' : g' = j := by simpa [Value.ownBlock] using h1
      subst h1'
      rcases hwh' with e | e
      · exact hjv e
      · simp at e; omega
end Go.Proofs.YtemgbdncidgoiaaDoor
end
section
namespace Go.Proofs.YtemgbdncidgoiaaDoor
open Go.RowKit Go.Shelf Go.Rg
attribute [local go_sem] Oper.semAt_some
set_option maxRecDepth 100000 in
set_option maxHeartbeats 2000000 in
theorem appendTl_in (g : Nat) (lb : Array Value) (eg : ∀ args w, (callFunc g args).run Tryd.prog w = .ok (.enter g args) w)
    (xs : List (Nat × Nat × Nat)) (hN : xs.length ≤ maxLen) (hNb : xs.length * 24 ≤ 140737488355328) (w : World) (hseq : Tells Tryd.prog g lb encLn xs w) :
    CallsIn Fence.wide 2 Tryd.prog 49 #[.slice none 0 0, .func (.func g) #[] lb] w fun e w' => ∃ v : Value, e = .returned v ∧ w'.ownsRow w.heap.size 50 3 v xs.length (cellsLn xs) ∧ Below w.heap.size w w' := by
  refine callsIn_of_wp_marks Tryd.func49 rfl trivial ?_ rfl
  simp only [Tryd.ntmps49, List.size_toArray, List.length_cons, List.length_nil, Nat.reduceAdd, Nat.reduceSub, Array.replicate_succ, Array.replicate_zero, List.push_toArray, List.append_toArray, List.nil_append, List.cons_append]
  gi_wp2
  refine wpIn_rangeFunc ?_
  intro fn hfn
  obtain ⟨W0, hW0⟩ : ∃ W0, w.alloc (.cells #[.slice none 0 0] 47) = W0 := ⟨_, rfl⟩
  have hs0 : W0.heap.size = w.heap.size + 1 := by rw [← hW0]; simp
  have hv0 : W0.heap[w.heap.size]? = some (.cells #[.slice none 0 0] 47 (0, 0)) := by rw [← hW0]; exact World.alloc_heap_new w _
  have hb0 : Below w.heap.size w W0 := by rw [← hW0]; exact (Below.refl _ w).alloc (Nat.le_refl _) _
  rw [hW0]
  obtain ⟨W1, hW1⟩ : ∃ W1, (W0.alloc (.deferred (some []))).alloc (.loop (tpRec fn (.func (.func g) #[] lb) w.heap.size W0.heap.size .ready none)) = W1 := ⟨_, rfl⟩
  have hold : ∀ k, k < W0.heap.size → W1.heap[k]? = W0.heap[k]? := fun k hk => by
    rw [← hW1]; exact (Below.heap_alloc _ _ k (by simp; omega)).trans (Below.heap_alloc _ _ k hk)
  have hb1 : Below w.heap.size w W1 := by rw [← hW1]; exact (hb0.alloc hb0.size _).alloc (by have := hb0.size; simp; omega) _
  have hs1 : W1.heap.size = W0.heap.size + 2 := by rw [← hW1]; simp
  have hM : Coll w 47 50 3 (tpRec fn (.func (.func g) #[] lb) w.heap.size W0.heap.size .ready none) w.heap.size (W0.heap.size + 1) W0.heap.size (cellsLn (xs.take 0)) 0 W1 :=
    ⟨⟨_, (hold w.heap.size (by omega)).trans hv0, ⟨rfl, .inl ⟨rfl, rfl⟩⟩, by simp⟩,
     by rw [← hW1]; have := World.alloc_heap_new (W0.alloc (.deferred (some []))) (.loop (tpRec fn (.func (.func g) #[] lb) w.heap.size W0.heap.size .ready none)); rwa [World.size_alloc] at this,
     by rw [← hW1]; exact (Below.heap_alloc _ _ _ (by simp)).trans (World.alloc_heap_new W0 _), hb1⟩
  refine ⟨W0.heap.size + 1, [{ target := .collected W0.heap.size, args := #[] }], W1, { target := .fn (.func g) lb, args := #[.func (.yield (W0.heap.size + 1)) #[] #[]] }, W1, g,
    #[.func (.yield (W0.heap.size + 1)) #[] #[]] ++ lb, W1, ?_, ?_, ?_, ?_, fun h => by simp [Fence.wide] at h, ?_⟩
  · rw [← hW1]; exact run_enterLoop_outer _ _ _ _ _
  · simp [resolve, go_sem]
  · intro f' hf'; trivial
  · simp [invoke, go_sem, eg]
  · refine (hseq (W0.heap.size + 1) (fun i W => Coll w 47 50 3 (tpRec fn (.func (.func g) #[] lb) w.heap.size W0.heap.size .ready none) w.heap.size (W0.heap.size + 1) W0.heap.size (cellsLn (xs.take i)) i W) (fun _ => False) (CollT 47 w.heap.size (W0.heap.size + 1) W0.heap.size) W1
      (coll_abides _ _ _ _ _ _ _ _ _) ?_ hM).mono ?_
    · intro i x W hx hJ
      have hi := (List.getElem?_eq_some_iff.1 hx).1
      have := tpYield w fn (.func (.func g) #[] lb) w.heap.size (W0.heap.size + 1) W0.heap.size (by omega) (by omega) (by omega) (Nat.le_refl _) (by omega) xs.length hN hNb (cellsLn (xs.take i)) i x W hJ hi
      have e : cellsLn (xs.take (i + 1)) = cellsLn (xs.take i) ++ cellLn x := by
        rw [List.take_add_one, hx]
        simp [cellsLn]
      obtain ⟨fn', tmps', as', bd', hy, hR⟩ := this
      refine ⟨fn', tmps', as', bd', hy, hR.mono ?_⟩
      rintro e' W' ⟨rfl, hc, hk⟩
      exact .inl ⟨rfl, by dsimp only; rw [e]; exact hc, hk⟩
    rintro e W2 ⟨⟨v0, rfl⟩, h2⟩
    replace h2 := h2.resolve_right id
    rw [List.take_length] at h2
    obtain ⟨v, hv, hrow, hnil⟩ := h2.box
    have hend := run_endLoop (P := Tryd.prog) h2.L (by simp [tpRec])
    obtain ⟨W3, hW3⟩ : ∃ W3, W2.putObj (W0.heap.size + 1) (.loop { tpRec fn (.func (.func g) #[] lb) w.heap.size W0.heap.size .ready none with state := .exhausted }) = W3 := ⟨_, rfl⟩
    rw [hW3] at hend
    have hg3 : W2.grownBy W3 (some (W0.heap.size + 1)) := by rw [← hW3]; exact grownBy_putObj _ _ _
    have hv3 : Boxed W3 w.heap.size 47 v := hv.kept hg3 (by simp; omega)
    have hK3 : W3.heap[W0.heap.size]? = some (.deferred (some [])) := by rw [← hW3]; exact (World.putObj_heap_other (by omega)).trans h2.K
    have hrow3 := hrow.kept hg3 (ownsRow_ne hrow h2.L (fun cur e => by cases e))
    have hb3 : Below w.heap.size w W3 := h2.below.grown hg3 h2.below.size (fun k e => by cases e; omega)
    have hc3 := hv3.cell
    have hf3 := hv3.frozen
    clear hW3
    refine ⟨none, W3, hend, ?_⟩
    gi_wp2
    rw [← hs0]
    refine ⟨by simp, .inl ⟨_, _, rfl, run_takeDeferred hK3, ?_⟩⟩
    exact ⟨_, results_tmp rfl _ _ _, v, rfl, hrow3.kept (grownBy_putObj _ _ _) (ownsRow_ne hrow3 hK3 (fun cur e => by cases e)), hb3.grown (grownBy_putObj _ _ _) hb3.size (fun k e => by cases e; omega)⟩
set_option maxHeartbeats 1000000 in
theorem collectTl_in (g : Nat) (lb : Array Value) (eg : ∀ args w, (callFunc g args).run Tryd.prog w = .ok (.enter g args) w)
    (xs : List (Nat × Nat × Nat)) (hN : xs.length ≤ maxLen) (hNb : xs.length * 24 ≤ 140737488355328) (w : World) (hseq : Tells Tryd.prog g lb encLn xs w) :
    Calls Tryd.prog 35 #[.func (.func g) #[] lb] w fun e w' => ∃ v : Value, e = .returned v ∧ w'.ownsRow w.heap.size 50 3 v xs.length (cellsLn xs) ∧ Below w.heap.size w w' := by
  go_enter Tryd.func35, Tryd.ntmps35
  go_wp2_with (first | (go_at_call 49; refine (callsIn_wide.1 (appendTl_in g lb eg xs hN hNb _ hseq)).mono ?_; rintro e w' ⟨v, rfl, hrow, hb⟩))
  go_ret
  exact ⟨v, rfl, hrow, hb⟩
end Go.Proofs.YtemgbdncidgoiaaDoor
end
section
namespace Go.Proofs.YtemgbdncidgoiaaDoor
open Go.Ev Go Go.RowKit Go.Shelf Go.Rg
def LiesAt (w : World) (B o : Nat) (cs : List Value) : Prop := ∀ j x, cs[j]? = some x → w.cell? ⟨B, o + j, none⟩ = some x
def CutsAt (w : World) (cuts : List (Nat × Nat)) (a : Option Addr) : Prop := ∀ i c, cuts[i]? = some c → ∃ B o, a = some ⟨B, o, none⟩ ∧ LiesAt w B (o + i * 2) [.int .i64 (c.1 : Nat), .int .i64 (c.2 : Nat)]
mutual
def PIs (w : World) : Pt → Value → Prop
  | .mk k h b kids cuts e, x => ∃ (ka ca : Option Addr) (kcap ccap : Nat), x = .agg #[.int .i64 (k : Nat), .int .i64 (h.1 : Nat), .int .i64 (h.2 : Nat), .int .i64 (b.1 : Nat), .int .i64 (b.2 : Nat), .slice ka kids.length kcap, .slice ca cuts.length ccap, .int .i64 (e.1 : Nat), .int .i64 (e.2 : Nat)] ∧
      kids.length ≤ kcap ∧ cuts.length ≤ ccap ∧ PIsL w kids ka 0 ∧ CutsAt w cuts ca
def PIsL (w : World) : List Pt → Option Addr → Nat → Prop
  | [], _, _ => True
  | p :: r, a, i => (∃ B o cs, a = some ⟨B, o, none⟩ ∧ PIs w p (.agg cs.toArray) ∧ LiesAt w B (o + i * 9) cs) ∧ PIsL w r a (i + 1)
end
theorem LiesAt.below {base W : World} {B o : Nat} {cs : List Value} (h : LiesAt base B o cs) (hb : Below base.heap.size base W) : LiesAt W B o cs := by
  intro j x hj
  have h1 := h j x hj
  have hB := World.block_lt_of_cell? base _ h1
  exact (hb.cell (p := ⟨B, o + j, none⟩) hB).trans h1
mutual
theorem PIs.below {base W : World} (hb : Below base.heap.size base W) : ∀ (p : Pt) (x : Value), PIs base p x → PIs W p x
  | .mk k h b kids cuts e, x, hp => by
    rw [PIs] at hp ⊢
    obtain ⟨ka, ca, kcap, ccap, hx, h1, h2, h3, h4⟩ := hp
    exact ⟨ka, ca, kcap, ccap, hx, h1, h2, PIsL.below hb kids ka 0 h3, fun i c hc => by
      obtain ⟨B, o, ha, hl⟩ := h4 i c hc
      exact ⟨B, o, ha, hl.below hb⟩⟩
theorem PIsL.below {base W : World} (hb : Below base.heap.size base W) : ∀ (l : List Pt) (a : Option Addr) (i : Nat), PIsL base l a i → PIsL W l a i
  | [], a, i, _ => by rw [PIsL]; trivial
  | p :: r, a, i, hp => by
    rw [PIsL] at hp ⊢
    obtain ⟨⟨B, o, cs, ha, h1, h2⟩, h3⟩ := hp
    exact ⟨⟨B, o, cs, ha, PIs.below hb p _ h1, h2.below hb⟩, PIsL.below hb r a (i + 1) h3⟩
end
theorem flat_at {s : Nat} {l : List Value} (h : ∀ x ∈ l, x.cells.size = s) {j : Nat} {x : Value} (hj : l[j]? = some x) {t : Nat} {z : Value} (ht : x.cells.toList[t]? = some z) : (flat l)[j * s + t]? = some z := by
  refine flat_part h (k := j) (m := j + 1) t z ?_
  have hjl := (List.getElem?_eq_some_iff.1 hj).1
  have e : (l.take (j + 1)).drop j = [x] := by
    rw [List.take_add_one, hj, List.drop_append_of_le_length (by rw [List.length_take]; omega), List.drop_eq_nil_of_le (by rw [List.length_take]; omega)]
    rfl
  rw [e]
  simpa [flat] using ht
theorem lies_of_row {c : Cfg} {w : World} {G : Gh} {B o : Nat} {l : List Value} {s : Nat} (h : SRow w G B o (flat l)) (hs : ∀ x ∈ l, x.cells.size = s) {j : Nat} {cs : List Value} (hj : l[j]? = some (.agg cs.toArray)) : LiesAt w B (o + j * s) cs := by
  intro t z ht
  have := (h (j * s + t) z (flat_at hs hj (by simpa [Value.cells] using ht))).1
  rw [Nat.add_assoc]
  exact this
set_option maxRecDepth 100000 in
mutual
theorem pis_of_rep {c : Cfg} (tySize28 : tySize c 28 = 9) (tySize24 : tySize c 24 = 2) {w : World} {G : Gh} : ∀ (p : Pt) (x : Value), Rep c w G [] (partV p) x → PIs w p x
  | .mk k h b kids cuts e, x, hr => by
    obtain ⟨l, rfl, hl, _, hr⟩ := agg_of hr (by rw [partV, partVL_eq])
    match l, hl with
    | [a0, a1, a2, a3, a4, a5, a6, a7, a8], _ =>
      have e0 := int_of (hr 0 _ a0 rfl rfl) rfl
      have e1 := int_of (hr 1 _ a1 rfl rfl) rfl
      have e2 := int_of (hr 2 _ a2 rfl rfl) rfl
      have e3 := int_of (hr 3 _ a3 rfl rfl) rfl
      have e4 := int_of (hr 4 _ a4 rfl rfl) rfl
      have e7 := int_of (hr 7 _ a7 rfl rfl) rfl
      have e8 := int_of (hr 8 _ a8 rfl rfl) rfl
      obtain ⟨ka, kcap, klo, e5, hklo, hkr, _, hks, _, hkcap, _, hkrow⟩ := lst_of (hr 5 _ a5 rfl rfl) rfl
      obtain ⟨ca, ccap, clo, e6, hclo, hcr, _, hcs, _, hccap, _, hcrow⟩ := lst_of (hr 6 _ a6 rfl rfl) rfl
      subst e0 e1 e2 e3 e4 e5 e6 e7 e8
      rw [List.length_map] at hklo hkcap hclo hccap
      rw [tySize28] at hks
      rw [tySize24] at hcs
      rw [PIs]
      refine ⟨ka, ca, kcap, ccap, by simp, hkcap, hccap, pisl_of_rep tySize28 tySize24 (G := G) kids ka 0 (fun j q hj => ?_), fun i q hc => ?_⟩
      · have hjl := (List.getElem?_eq_some_iff.1 hj).1
        have hrj := hkr j (partV q) (klo[j]'(by omega)) (by rw [List.getElem?_map, hj]; rfl) (List.getElem?_eq_getElem (by omega))
        obtain ⟨cs, hcs', _⟩ := agg_of (cs := (match partV q with | .agg l => l | _ => [])) hrj (by cases q; rw [partV])
        have hkl0 : kids.map partV ≠ [] := fun e => by
          have := congrArg List.length e
          simp at this; subst this; simp at hjl
        cases ka with
        | none => exfalso; simp_all
        | some a =>
          obtain ⟨g1, g2⟩ := hkrow a rfl hkl0
          obtain ⟨B, o, spot⟩ := a
          simp only at g1
          subst g1
          refine ⟨B, o, cs, rfl, by rw [← hcs']; exact hrj, ?_⟩
          rw [Nat.zero_add]
          exact lies_of_row (c := c) g2 hks (by rw [List.getElem?_eq_getElem (by omega), hcs'])
      · have hil := (List.getElem?_eq_some_iff.1 hc).1
        have hri := hcr i (cutV q) (clo[i]'(by omega)) (by rw [List.getElem?_map, hc]; rfl) (List.getElem?_eq_getElem (by omega))
        obtain ⟨cs, hcs', hcl, _, hcc⟩ := agg_of hri rfl
        match cs, hcl with
        | [u, v], _ =>
          have eu := int_of (hcc 0 _ u rfl rfl) rfl
          have ev := int_of (hcc 1 _ v rfl rfl) rfl
          subst eu ev
          have hcl0 : cuts.map cutV ≠ [] := fun e => by
            have := congrArg List.length e
            simp at this; subst this; simp at hil
          cases ca with
          | none => exfalso; simp_all
          | some a =>
            obtain ⟨g1, g2⟩ := hcrow a rfl hcl0
            obtain ⟨B, o, spot⟩ := a
            simp only at g1
            subst g1
            exact ⟨B, o, rfl, lies_of_row (c := c) g2 hcs (by rw [List.getElem?_eq_getElem (by omega), hcs'])⟩
theorem pisl_of_rep {c : Cfg} (tySize28 : tySize c 28 = 9) (tySize24 : tySize c 24 = 2) {w : World} {G : Gh} : ∀ (l : List Pt) (a : Option Addr) (i : Nat), (∀ (j : Nat) q, l[j]? = some q → ∃ B o cs, a = some ⟨B, o, none⟩ ∧ Rep c w G [] (partV q) (.agg cs.toArray) ∧ LiesAt w B (o + (i + j) * 9) cs) → PIsL w l a i
  | [], a, i, _ => by rw [PIsL]; trivial
  | p :: r, a, i, h => by
    rw [PIsL]
    obtain ⟨B, o, cs, h1, h2, h3⟩ := h 0 p rfl
    refine ⟨⟨B, o, cs, h1, pis_of_rep tySize28 tySize24 (G := G) p _ h2, by simpa using h3⟩, pisl_of_rep tySize28 tySize24 (G := G) r a (i + 1) fun j q hj => ?_⟩
    obtain ⟨B, o, cs, h1, h2, h3⟩ := h (j + 1) q (by simpa using hj)
    exact ⟨B, o, cs, h1, h2, by rw [show i + 1 + j = i + (j + 1) by omega]; exact h3⟩
end
def SegOk (f : Nat) (pv : Value) (seg : List (Nat × Nat × Nat)) (base : World) : Prop :=
  ∀ (l : Nat) (xs : List (Nat × Nat × Nat)) (i : Nat) (J : Nat → World → Prop) (Jx : World → Prop) (T : World → Nat → Prop) (W : World), Go.Rg.Abides base J T → Go.Rg.Rounds Tryd.prog l encLn xs J Jx T →
    (∀ (k : Nat) x, seg[k]? = some x → xs[i + k]? = some x) → J i W →
    CallsIn Fence.wide 1 Tryd.prog f #[pv, .func (.yield l) #[] #[]] W fun e W' => (e = .returned (.bool true) ∧ J (i + seg.length) W' ∧ Go.Rg.Kept T W W') ∨ (e = .returned (.bool false) ∧ Jx W')
end Go.Proofs.YtemgbdncidgoiaaDoor
end
section
namespace Go.Proofs.YtemgbdncidgoiaaDoor
open Go.RowKit Go.Shelf Go.Rg
attribute [local go_sem] Oper.semAt_some
def Sub (xs : List (Nat × Nat × Nat)) (i : Nat) (seg : List (Nat × Nat × Nat)) : Prop := ∀ (k : Nat) x, seg[k]? = some x → xs[i + k]? = some x
theorem Sub.head {xs : List (Nat × Nat × Nat)} {i : Nat} {x : Nat × Nat × Nat} {r : List (Nat × Nat × Nat)} (h : Sub xs i (x :: r)) : xs[i]? = some x ∧ Sub xs (i + 1) r :=
  ⟨h 0 x rfl, fun k y hy => by rw [show i + 1 + k = i + (k + 1) by omega]; exact h (k + 1) y (by simpa using hy)⟩
theorem Sub.app {xs : List (Nat × Nat × Nat)} {i : Nat} {a b : List (Nat × Nat × Nat)} (h : Sub xs i (a ++ b)) : Sub xs i a ∧ Sub xs (i + a.length) b :=
  ⟨fun k y hy => h k y (by rw [List.getElem?_append_left (List.getElem?_eq_some_iff.1 hy).1]; exact hy),
   fun k y hy => by rw [Nat.add_assoc]; exact h (a.length + k) y (by rw [List.getElem?_append_right (by omega)]; simpa using hy)⟩
def BoxT (T : World → Nat → Prop) (B : Nat) (cs : Array Value) (W : World) : Prop := W.heap[B]? = some (.cells cs 28 (0, 0)) ∧ ¬ T W B
theorem BoxT.cell {T : World → Nat → Prop} {B : Nat} {cs : Array Value} {W : World} (h : BoxT T B cs W) (j : Nat) (v : Value) (hv : cs[j]? = some v) : W.cell? ⟨B, j, none⟩ = some v := by
  simp only [World.cell?, h.1]
  exact hv
theorem BoxT.lt {T : World → Nat → Prop} {B : Nat} {cs : Array Value} {W : World} (h : BoxT T B cs W) : B < W.heap.size := (Array.getElem?_eq_some_iff.1 h.1).1
theorem BoxT.kept {T : World → Nat → Prop} {B : Nat} {cs : Array Value} {W W' : World} (h : BoxT T B cs W) (hk : Go.Rg.Kept T W W') : BoxT T B cs W' :=
  ⟨(hk.block B h.lt h.2).1.trans h.1, (hk.block B h.lt h.2).2⟩
theorem kept_trans {T : World → Nat → Prop} {A B C : World} (h : Go.Rg.Kept T A B) (h' : Go.Rg.Kept T B C) : Go.Rg.Kept T A C :=
  ⟨Nat.le_trans h.size h'.size, fun j hj hT => by
    obtain ⟨a, b⟩ := h.block j hj hT
    obtain ⟨c, d⟩ := h'.block j (Nat.lt_of_lt_of_le hj h.size) b
    exact ⟨c.trans a, d⟩⟩
theorem box_new {base : World} {J : Nat → World → Prop} {T : World → Nat → Prop} (hab : Go.Rg.Abides base J T) {i : Nat} {W : World} (h : J i W) (cs : Array Value) :
    J i (W.alloc (.cells cs 28)) ∧ BoxT T W.heap.size cs (W.alloc (.cells cs 28)) ∧ Go.Rg.Kept T W (W.alloc (.cells cs 28)) := by
  have hg : W.grownBy (W.alloc (.cells cs 28)) none := World.grownBy_alloc _ _ _
  have hst := hab.step i W _ none h hg (fun r e => by cases e)
  refine ⟨hst.1, ⟨World.alloc_heap_new W _, fun ht => Nat.lt_irrefl _ (hab.lt i W _ h (hst.2 _ ht))⟩, by simp, fun j hj hT => ⟨Below.heap_alloc _ _ j hj, fun ht => hT (hst.2 j ht)⟩⟩
def KidsOk (base : World) (kids : List Pt) (ka : Option Addr) : Prop :=
  ∀ (j : Nat) q, kids[j]? = some q → (tilesP q).length < 1099511627776 → ∃ (B o : Nat) (k f1 t1 f2 t2 f3 t3 : Int) (na la nb lb : Nat) (a b : Option Addr), ka = some ⟨B, o, none⟩ ∧
    LiesAt base B (o + j * 9) [.int .i64 k, .int .i64 f1, .int .i64 t1, .int .i64 f2, .int .i64 t2, .slice a na la, .slice b nb lb, .int .i64 f3, .int .i64 t3] ∧
    SegOk 48 (.agg #[.int .i64 k, .int .i64 f1, .int .i64 t1, .int .i64 f2, .int .i64 t2, .slice a na la, .slice b nb lb, .int .i64 f3, .int .i64 t3]) (tilesP q) base
def multiT (b : Nat × Nat) (kids : List Pt) (cuts : List (Nat × Nat)) (e : Nat × Nat) : List (Nat × Nat × Nat) :=
  (2, b.1, if 0 < min cuts.length kids.length then (cuts.getD 0 (0, 0)).1 else e.1) :: (zipT cuts (tilesL kids) ++ [(4, e.1, e.2), (5, e.2, b.2)])
set_option maxRecDepth 100000 in
set_option maxHeartbeats 4000000 in
theorem walk_node (base : World) (k : Nat) (h b : Nat × Nat) (kids : List Pt) (cuts : List (Nat × Nat)) (e : Nat × Nat) (ka ca : Option Addr) (kcap ccap : Nat)
    (hkids : KidsOk base kids ka) (hlen : (tilesP (.mk k h b kids cuts e)).length < 1099511627776)
    (hm : k = 1 → SegOk 68 (.agg #[.int .i64 (k : Nat), .int .i64 (h.1 : Nat), .int .i64 (h.2 : Nat), .int .i64 (b.1 : Nat), .int .i64 (b.2 : Nat), .slice ka kids.length kcap, .slice ca cuts.length ccap, .int .i64 (e.1 : Nat), .int .i64 (e.2 : Nat)]) (multiT b kids cuts e) base) :
    SegOk 48 (.agg #[.int .i64 (k : Nat), .int .i64 (h.1 : Nat), .int .i64 (h.2 : Nat), .int .i64 (b.1 : Nat), .int .i64 (b.2 : Nat), .slice ka kids.length kcap, .slice ca cuts.length ccap, .int .i64 (e.1 : Nat), .int .i64 (e.2 : Nat)])
      (tilesP (.mk k h b kids cuts e)) base := by
  intro l xs i J Jx T W hab hR hsub h0
  obtain ⟨hJ1, hB1, hK1⟩ := box_new hab h0 #[.int .i64 (k : Nat), .int .i64 (h.1 : Nat), .int .i64 (h.2 : Nat), .int .i64 (b.1 : Nat), .int .i64 (b.2 : Nat), .slice ka kids.length kcap, .slice ca cuts.length ccap, .int .i64 (e.1 : Nat), .int .i64 (e.2 : Nat)]
  have hsub : Sub xs i (tilesP (.mk k h b kids cuts e)) := hsub
  rw [tilesP] at hsub hlen ⊢
  generalize hrest : (if k = 1 then (2, b.1, if 0 < min cuts.length kids.length then (cuts.getD 0 (0, 0)).1 else e.1) :: (zipT cuts (tilesL kids) ++ [(4, e.1, e.2), (5, e.2, b.2)]) else if k = 2 then (tilesL kids).headD [] else [(1, b.1, b.2)]) = rest at hsub hlen ⊢
  obtain ⟨hx0, hsub1⟩ := hsub.head
  obtain ⟨L, hL⟩ : ∃ L, ((0, h.1, h.2) :: rest).length = L := ⟨_, rfl⟩
  rw [hL]
  simp only [List.length_cons] at hL hlen
  obtain ⟨fn, tmps, assign, body, hy, hRd⟩ := hR i _ _ hx0 hJ1
  refine callsIn_of_wp Tryd.func48 rfl trivial ?_ rfl
  simp only [Tryd.ntmps48, List.size_toArray, List.length_cons, List.length_nil, Nat.reduceAdd, Nat.reduceSub, Array.replicate_succ, Array.replicate_zero, List.push_toArray, List.append_toArray, List.nil_append, List.cons_append]
  simp only [encLn, Int.natCast_zero] at hy
  gi_wp2
  refine hRd.mono ?_
  rintro e' W2 (⟨rfl, hJ2, hK2⟩ | ⟨rfl, hJx⟩)
  case inr =>
    gi_wp2
    refine bodyPost_ret (results_tmp rfl _ _ _) rfl ?_
    exact .inr ⟨rfl, hJx⟩
  case inl =>
    have hB2 := hB1.kept hK2
    have c0 := hB2.cell 0 _ rfl
    have c1 := hB2.cell 1 _ rfl
    have c2 := hB2.cell 2 _ rfl
    have c3 := hB2.cell 3 _ rfl
    have c4 := hB2.cell 4 _ rfl
    have c5 := hB2.cell 5 _ rfl
    have c6 := hB2.cell 6 _ rfl
    have c7 := hB2.cell 7 _ rfl
    have c8 := hB2.cell 8 _ rfl
    have keep : ∀ W', Go.Rg.Kept T W2 W' → Go.Rg.Kept T W W' := fun W' h => kept_trans hK1 (kept_trans hK2 h)
    by_cases k1 : k = 1
    · subst k1
      rw [if_pos rfl] at hrest
      have hcall := hm rfl l xs (i + 1) J Jx T W2 hab hR (by rw [← hrest] at hsub1; exact hsub1) hJ2
      gi_wp2
      refine ⟨trivial, (callsIn_wide.2 (callsIn_wide.1 hcall)).mono ?_⟩
      rintro e' W3 (⟨rfl, hJ3, hK3⟩ | ⟨rfl, hJx⟩)
      · gi_wp2
        refine bodyPost_ret (results_tmp rfl _ _ _) rfl ?_
        refine .inl ⟨rfl, ?_, keep _ hK3⟩
        rw [← hL, ← hrest]
        rw [Nat.add_assoc, Nat.add_comm 1] at hJ3
        exact hJ3
      · gi_wp2
        refine bodyPost_ret (results_tmp rfl _ _ _) rfl ?_
        exact .inr ⟨rfl, hJx⟩
    · by_cases k2 : k = 2
      · subst k2
        rw [if_neg (by omega), if_pos rfl] at hrest
        cases kids with
        | nil =>
          gi_wp2
          refine ⟨trivial, ?_⟩
          gi_wp2
          refine bodyPost_ret (results_tmp rfl _ _ _) rfl ?_
          refine .inl ⟨rfl, ?_, keep _ ⟨Nat.le_refl _, fun j _ hT => ⟨rfl, hT⟩⟩⟩
          rw [← hL, ← hrest]
          exact hJ2
        | cons q r =>
          rw [tilesL, List.headD_cons] at hrest
          have z4 : (((q :: r).length : Int) == 0) = false := by simp; omega
          have z3 : (0 : Int) < ((q :: r).length : Int) := by simp
          obtain ⟨B, o, kk, f1, t1, f2, t2, f3, t3, na, la, nb, lb, a, a', rfl, hl, hseg⟩ := hkids 0 q rfl (by rw [hrest]; omega)
          have hcall := hseg l xs (i + 1) J Jx T W2 hab hR (by rw [← hrest] at hsub1; exact hsub1) hJ2
          have hbel := hab.old _ _ hJ2
          have hl2 := hl.below hbel
          simp only [Nat.zero_mul, Nat.add_zero] at hl2
          have d0 : W2.cell? ⟨B, o, none⟩ = _ := hl2 0 _ rfl
          have d1 := hl2 1 _ rfl
          have d2 := hl2 2 _ rfl
          have d3 := hl2 3 _ rfl
          have d4 := hl2 4 _ rfl
          have d5 := hl2 5 _ rfl
          have d6 := hl2 6 _ rfl
          have d7 := hl2 7 _ rfl
          have d8 := hl2 8 _ rfl
          generalize hn : (q :: r).length = n at *
          gi_wp2
          refine ⟨trivial, (callsIn_wide.2 (callsIn_wide.1 hcall)).mono ?_⟩
          rintro e' W3 (⟨rfl, hJ3, hK3⟩ | ⟨rfl, hJx⟩)
          · gi_wp2
            refine bodyPost_ret (results_tmp rfl _ _ _) rfl ?_
            refine .inl ⟨rfl, ?_, keep _ hK3⟩
            rw [← hL, ← hrest]
            rw [Nat.add_assoc, Nat.add_comm 1] at hJ3
            exact hJ3
          · gi_wp2
            refine bodyPost_ret (results_tmp rfl _ _ _) rfl ?_
            exact .inr ⟨rfl, hJx⟩
      · rw [if_neg k1, if_neg k2] at hrest
        have z1 : ¬ ((k : Int) = 1) := by omega
        have z2 : ¬ ((k : Int) = 2) := by omega
        rw [← hrest] at hsub1
        obtain ⟨hx1, _⟩ := hsub1.head
        obtain ⟨fn, tmps, assign, body, hy, hRd⟩ := hR (i + 1) _ _ hx1 hJ2
        simp only [encLn, Int.natCast_one] at hy
        gi_wp2
        refine hRd.mono ?_
        rintro e' W3 (⟨rfl, hJ3, hK3⟩ | ⟨rfl, hJx⟩)
        · gi_wp2
          refine bodyPost_ret (results_tmp rfl _ _ _) rfl ?_
          refine .inl ⟨rfl, ?_, keep _ hK3⟩
          rw [← hL, ← hrest]
          exact hJ3
        · gi_wp2
          refine bodyPost_ret (results_tmp rfl _ _ _) rfl ?_
          exact .inr ⟨rfl, hJx⟩
theorem zipT_nil (cs : List (Nat × Nat)) : zipT cs [] = [] := by cases cs <;> rfl
theorem zipT_drop {cs : List (Nat × Nat)} {ts : List (List (Nat × Nat × Nat))} {j : Nat} {c : Nat × Nat} {t : List (Nat × Nat × Nat)} (hc : cs[j]? = some c) (ht : ts[j]? = some t) :
    zipT (cs.drop j) (ts.drop j) = (3, c.1, c.2) :: t ++ zipT (cs.drop (j + 1)) (ts.drop (j + 1)) := by
  obtain ⟨h1, rfl⟩ := List.getElem?_eq_some_iff.1 hc
  obtain ⟨h2, rfl⟩ := List.getElem?_eq_some_iff.1 ht
  rw [List.drop_eq_getElem_cons h1, List.drop_eq_getElem_cons h2]
  rfl
theorem zipT_end {cs : List (Nat × Nat)} {ts : List (List (Nat × Nat × Nat))} {j : Nat} (h : min cs.length ts.length ≤ j) : zipT (cs.drop j) (ts.drop j) = [] := by
  rcases Nat.le_total cs.length ts.length with h1 | h1
  · rw [List.drop_eq_nil_of_le (by omega : cs.length ≤ j)]; rfl
  · rw [List.drop_eq_nil_of_le (by omega : ts.length ≤ j)]; exact zipT_nil _
theorem zipT_le {t : List (Nat × Nat × Nat)} : ∀ (cs : List (Nat × Nat)) (ts : List (List (Nat × Nat × Nat))) (j : Nat), j < cs.length → ts[j]? = some t → t.length < (zipT cs ts).length
  | c :: cs, u :: ts, 0, _, h => by simp at h; subst h; simp [zipT]; omega
  | c :: cs, u :: ts, j + 1, hj, h => by
    have := zipT_le cs ts j (by simpa using hj) (by simpa using h)
    simp only [zipT, List.length_append, List.length_cons]
    omega
theorem zipT_min : ∀ (cs : List (Nat × Nat)) (ts : List (List (Nat × Nat × Nat))), min cs.length ts.length ≤ (zipT cs ts).length
  | [], ts => by simp
  | c :: cs, [] => by simp
  | c :: cs, u :: ts => by
    have := zipT_min cs ts
    simp only [zipT, List.length_append, List.length_cons]
    omega
theorem tilesL_eq : ∀ l : List Pt, tilesL l = l.map tilesP
  | [] => rfl
  | p :: r => by rw [tilesL, tilesL_eq r]; rfl
set_option maxRecDepth 100000 in
set_option maxHeartbeats 4000000 in
theorem multi_node (base : World) (h b : Nat × Nat) (kids : List Pt) (cuts : List (Nat × Nat)) (e : Nat × Nat) (ka ca : Option Addr) (kcap ccap : Nat)
    (hkids : KidsOk base kids ka) (hcuts : CutsAt base cuts ca) (hk : kids.length ≤ kcap) (hc : cuts.length ≤ ccap) (hlen : (multiT b kids cuts e).length < 1099511627776) :
    SegOk 68 (.agg #[.int .i64 1, .int .i64 (h.1 : Nat), .int .i64 (h.2 : Nat), .int .i64 (b.1 : Nat), .int .i64 (b.2 : Nat), .slice ka kids.length kcap, .slice ca cuts.length ccap, .int .i64 (e.1 : Nat), .int .i64 (e.2 : Nat)]) (multiT b kids cuts e) base := by
  intro l xs i J Jx T W hab hR hsub h0
  obtain ⟨hJ1, hB1, hK1⟩ := box_new hab h0 #[.int .i64 1, .int .i64 (h.1 : Nat), .int .i64 (h.2 : Nat), .int .i64 (b.1 : Nat), .int .i64 (b.2 : Nat), .slice ka kids.length kcap, .slice ca cuts.length ccap, .int .i64 (e.1 : Nat), .int .i64 (e.2 : Nat)]
  have hsub : Sub xs i (multiT b kids cuts e) := hsub
  unfold multiT at hsub hlen ⊢
  obtain ⟨n, hn⟩ : ∃ n, min cuts.length kids.length = n := ⟨_, rfl⟩
  have hzmin := zipT_min cuts (tilesL kids)
  have hzi : min (cuts.length : Int) (kids.length : Int) = n := by omega
  have hkl : (tilesL kids).length = kids.length := by rw [tilesL_eq, List.length_map]
  rw [hkl, hn] at hzmin
  rw [hn] at hsub hlen ⊢
  generalize hte : (if 0 < n then (cuts.getD 0 (0, 0)).1 else e.1) = te at hsub hlen ⊢
  obtain ⟨hx0, hsub1⟩ := hsub.head
  obtain ⟨L, hL⟩ : ∃ L, ((2, b.1, te) :: (zipT cuts (tilesL kids) ++ [(4, e.1, e.2), (5, e.2, b.2)])).length = L := ⟨_, rfl⟩
  rw [hL]
  rw [List.length_cons] at hL hlen
  have hn40 : n < 1099511627776 := by simp at hlen; omega
  obtain ⟨fn, tmps, assign, body, hy, hRd⟩ := hR i _ _ hx0 hJ1
  simp only [encLn, Int.cast_ofNat_Int] at hy
  have keep : ∀ W', Go.Rg.Kept T (W.alloc (.cells #[.int .i64 1, .int .i64 (h.1 : Nat), .int .i64 (h.2 : Nat), .int .i64 (b.1 : Nat), .int .i64 (b.2 : Nat), .slice ka kids.length kcap, .slice ca cuts.length ccap, .int .i64 (e.1 : Nat), .int .i64 (e.2 : Nat)] 28)) W' → Go.Rg.Kept T W W' := fun W' h => kept_trans hK1 h
  have HS : Aside (Sub xs (i + 1) (zipT cuts (tilesL kids) ++ [(4, e.1, e.2), (5, e.2, b.2)])) := hsub1
  have HL : Aside ((zipT cuts (tilesL kids) ++ [(4, e.1, e.2), (5, e.2, b.2)]).length + 1 = L) := hL
  have HN : Aside (n ≤ (zipT cuts (tilesL kids)).length) := hzmin
  have HM : Aside (min cuts.length kids.length = n) := hn
  have HLL : Aside ((zipT cuts (tilesL kids) ++ [(4, e.1, e.2), (5, e.2, b.2)]).length + 1 < 1099511627776) := hlen
  clear hsub hx0 hsub1 hL hzmin hlen hn
  have hstop : ∀ (u : Nat) (q : Nat) (wr : World), n ≤ u → Sub xs q (zipT (cuts.drop u) ((tilesL kids).drop u) ++ [(4, e.1, e.2), (5, e.2, b.2)]) → q + (zipT (cuts.drop u) ((tilesL kids).drop u) ++ [(4, e.1, e.2), (5, e.2, b.2)]).length = i + L →
      xs[q]? = some (4, e.1, e.2) ∧ xs[q + 1]? = some (5, e.2, b.2) ∧ q + 2 = i + L := by
    intro u q wr hu h1 h2
    rw [zipT_end (by have := HM.out; omega)] at h1 h2
    obtain ⟨g1, g2⟩ := h1.head
    exact ⟨g1, g2.head.1, h2⟩
  by_cases hn0 : 0 < n
  · obtain ⟨c00, hc00⟩ : ∃ c00, cuts[0]? = some c00 := ⟨_, List.getElem?_eq_getElem (by have := HM.out; omega)⟩
    rw [if_pos hn0, List.getD_eq_getElem?_getD, hc00, Option.getD_some] at hte
    obtain ⟨cB, cO, rfl, hcl⟩ := hcuts 0 c00 hc00
    have hcl1 := hcl.below (hab.old _ _ hJ1)
    have e0 : (W.alloc (.cells #[.int .i64 1, .int .i64 (h.1 : Nat), .int .i64 (h.2 : Nat), .int .i64 (b.1 : Nat), .int .i64 (b.2 : Nat), .slice ka kids.length kcap, .slice (some ⟨cB, cO, none⟩) cuts.length ccap, .int .i64 (e.1 : Nat), .int .i64 (e.2 : Nat)] 28)).cell? ⟨cB, cO, none⟩ = some (.int .i64 c00.1) := by
      have := hcl1 0 _ rfl
      simpa using this
    have hnz : (0 : Int) < (n : Int) := by omega
    have hcz : (0 : Int) < (cuts.length : Int) := by have := HM.out; omega
    refine callsIn_of_wp Tryd.func68 rfl trivial ?_ rfl
    simp only [Tryd.ntmps68, List.size_toArray, List.length_cons, List.length_nil, Nat.reduceAdd, Nat.reduceSub, Array.replicate_succ, Array.replicate_zero, List.push_toArray, List.append_toArray, List.nil_append, List.cons_append]
    gi_wp2
    refine hRd.mono ?_
    rintro e' W2 (⟨rfl, hJ2, hK2⟩ | ⟨rfl, hJx⟩)
    · have hB2 := hB1.kept hK2
      gi_wp2
      gi_loopw [35] (fun v wr => ∃ u q : Nat, v = .int .i64 u ∧ u ≤ n ∧ J q wr ∧ BoxT T W.heap.size #[.int .i64 1, .int .i64 (h.1 : Nat), .int .i64 (h.2 : Nat), .int .i64 (b.1 : Nat), .int .i64 (b.2 : Nat), .slice ka kids.length kcap, .slice (some ⟨cB, cO, none⟩) cuts.length ccap, .int .i64 (e.1 : Nat), .int .i64 (e.2 : Nat)] wr ∧ Go.Rg.Kept T W wr ∧
        Sub xs q (zipT (cuts.drop u) ((tilesL kids).drop u) ++ [(4, e.1, e.2), (5, e.2, b.2)]) ∧ q + (zipT (cuts.drop u) ((tilesL kids).drop u) ++ [(4, e.1, e.2), (5, e.2, b.2)]).length = i + L)
        (fun v _ => n - (intOf v).toNat)
      case atStart => exact ⟨0, i + 1, rfl, by omega, hJ2, hB2, keep _ hK2, HS.out, by have := HL.out; simp only [List.drop_zero]; omega⟩
      case round =>
        obtain ⟨u, q, rfl, hu, hJu, hBu, hKu, hSu, hLu⟩ := hrel
        have HSu : Aside (Sub xs q (zipT (cuts.drop u) ((tilesL kids).drop u) ++ [(4, e.1, e.2), (5, e.2, b.2)]) ∧ q + (zipT (cuts.drop u) ((tilesL kids).drop u) ++ [(4, e.1, e.2), (5, e.2, b.2)]).length = i + L) := ⟨hSu, hLu⟩
        clear hSu hLu
        have c3 := hBu.cell 3 _ rfl
        have c4 := hBu.cell 4 _ rfl
        have c5 := hBu.cell 5 _ rfl
        have c6 := hBu.cell 6 _ rfl
        have c7 := hBu.cell 7 _ rfl
        have c8 := hBu.cell 8 _ rfl
        by_cases hun : u < n
        · have hunz : (u : Int) < (n : Int) := by omega
          have huc : u < cuts.length := by have := HM.out; omega
          have huk : u < kids.length := by have := HM.out; omega
          have hucz : (u : Int) < (cuts.length : Int) := by omega
          have hukz : (u : Int) < (kids.length : Int) := by omega
          have hu0 : (0 : Int) ≤ (u : Int) := by omega
          obtain ⟨cu, hcu⟩ : ∃ cu, cuts[u]? = some cu := ⟨_, List.getElem?_eq_getElem huc⟩
          obtain ⟨qq, hqq⟩ : ∃ qq, kids[u]? = some qq := ⟨_, List.getElem?_eq_getElem huk⟩
          have htq : (tilesL kids)[u]? = some (tilesP qq) := by rw [tilesL_eq, List.getElem?_map, hqq]; rfl
          have hbel := hab.old _ _ hJu
          obtain ⟨cB', cO', hcc, hcl⟩ := hcuts u cu hcu
          cases hcc
          have hclu := hcl.below hbel
          have g0 : wr.cell? ⟨cB, cO + u * 2, none⟩ = _ := hclu 0 _ rfl
          have g1 : wr.cell? ⟨cB, cO + u * 2 + 1, none⟩ = _ := hclu 1 _ rfl
          have hz := zipT_drop hcu htq
          have hs2 := HSu.out.1
          have hl2 := HSu.out.2
          rw [hz] at hs2 hl2
          simp only [List.cons_append, List.append_assoc (tilesP qq)] at hs2
          obtain ⟨hx3, hs3⟩ := hs2.head
          obtain ⟨hs4, hs5⟩ := hs3.app
          obtain ⟨fn3, tmps3, assign3, body3, hy3, hRd3⟩ := hR _ _ _ hx3 hJu
          simp only [encLn, Int.cast_ofNat_Int] at hy3
          have HS5 : Aside (Sub xs (q + 1 + (tilesP qq).length) (zipT (cuts.drop (u + 1)) ((tilesL kids).drop (u + 1)) ++ [(4, e.1, e.2), (5, e.2, b.2)])) := hs5
          have HL2 : Aside (q + 1 + (tilesP qq).length + (zipT (cuts.drop (u + 1)) ((tilesL kids).drop (u + 1)) ++ [(4, e.1, e.2), (5, e.2, b.2)]).length = i + L) := by
            refine Eq.trans ?_ hl2
            simp only [List.cons_append, List.append_assoc, List.length_cons, List.length_append]
            omega
          obtain ⟨B, o, kk, f1, t1, f2, t2, f3, t3, na, la, nb, lb, a, a', rfl, hl, hseg⟩ := hkids u qq hqq (by
            have := zipT_le cuts (tilesL kids) u huc htq
            have := HLL.out
            simp only [List.length_append] at this
            omega)
          have HSEG : Aside (SegOk 48 (.agg #[.int .i64 kk, .int .i64 f1, .int .i64 t1, .int .i64 f2, .int .i64 t2, .slice a na la, .slice a' nb lb, .int .i64 f3, .int .i64 t3]) (tilesP qq) base ∧ Sub xs (q + 1) (tilesP qq)) := ⟨hseg, hs4⟩
          have HLA : Aside (LiesAt base B (o + u * 9) [.int .i64 kk, .int .i64 f1, .int .i64 t1, .int .i64 f2, .int .i64 t2, .slice a na la, .slice a' nb lb, .int .i64 f3, .int .i64 t3]) := hl
          clear hseg hs4 hl hs5 hl2 hs2 hs3 hz htq hcl hclu hx3 hcu hqq
          gi_wp2
          refine hRd3.mono ?_
          rintro e' W3 (⟨rfl, hJ3, hK3⟩ | ⟨rfl, hJx⟩)
          · have hB3 := hBu.kept hK3
            have hl3 := HLA.out.below (hab.old _ _ hJ3)
            have b3 := hB3.cell 3 _ rfl
            have b5 := hB3.cell 5 _ rfl
            have d0 : W3.cell? ⟨B, o + u * 9, none⟩ = _ := hl3 0 _ rfl
            have d1 := hl3 1 _ rfl
            have d2 := hl3 2 _ rfl
            have d3 := hl3 3 _ rfl
            have d4 := hl3 4 _ rfl
            have d5 := hl3 5 _ rfl
            have d6 := hl3 6 _ rfl
            have d7 := hl3 7 _ rfl
            have d8 := hl3 8 _ rfl
            have HCALL : Aside _ := HSEG.out.1 l xs (q + 1) J Jx T W3 hab hR HSEG.out.2 hJ3
            clear hl3
            gi_wp2
            refine ⟨trivial, (callsIn_wide.2 (callsIn_wide.1 HCALL.out)).mono ?_⟩
            rintro e' W4 (⟨rfl, hJ4, hK4⟩ | ⟨rfl, hJx⟩)
            · gi_wp2
              go_roundw
              case rel => exact ⟨u + 1, q + 1 + (tilesP qq).length, by push_cast; rfl, by omega, hJ4, (hB3.kept hK4), kept_trans hKu (kept_trans hK3 hK4), HS5.out, HL2.out⟩
              case measure => simp [intOf]; omega
            · gi_wp2
              refine bodyPost_ret (results_tmp rfl _ _ _) rfl ?_
              exact .inr ⟨rfl, hJx⟩
          · gi_wp2
            refine ⟨trivial, ?_⟩
            gi_wp2
            refine bodyPost_ret (results_tmp rfl _ _ _) rfl ?_
            exact .inr ⟨rfl, hJx⟩
        · have hunz : ¬ (u : Int) < (n : Int) := by omega
          obtain ⟨hx4, hx5, hqL⟩ := hstop u q wr (by omega) HSu.out.1 HSu.out.2
          obtain ⟨fn4, tmps4, assign4, body4, hy4, hRd4⟩ := hR _ _ _ hx4 hJu
          simp only [encLn, Int.cast_ofNat_Int] at hy4
          gi_wp2
          refine hRd4.mono ?_
          rintro e' W3 (⟨rfl, hJ3, hK3⟩ | ⟨rfl, hJx⟩)
          · have hB3 := hBu.kept hK3
            have d3 := hB3.cell 3 _ rfl
            have d4 := hB3.cell 4 _ rfl
            have d7 := hB3.cell 7 _ rfl
            have d8 := hB3.cell 8 _ rfl
            obtain ⟨fn5, tmps5, assign5, body5, hy5, hRd5⟩ := hR _ _ _ hx5 hJ3
            simp only [encLn, Int.cast_ofNat_Int] at hy5
            gi_wp2
            refine hRd5.mono ?_
            rintro e' W4 (⟨rfl, hJ4, hK4⟩ | ⟨rfl, hJx⟩)
            · gi_wp2
              refine bodyPost_ret (results_tmp rfl _ _ _) rfl ?_
              refine .inl ⟨rfl, ?_, kept_trans hKu (kept_trans hK3 hK4)⟩
              rw [← hqL]
              exact hJ4
            · gi_wp2
              refine bodyPost_ret (results_tmp rfl _ _ _) rfl ?_
              exact .inr ⟨rfl, hJx⟩
          · gi_wp2
            refine ⟨(fun f h => by simp at h), ?_⟩
            gi_wp2
            refine bodyPost_ret (results_tmp rfl _ _ _) rfl ?_
            exact .inr ⟨rfl, hJx⟩
    · gi_wp2
      refine bodyPost_ret (results_tmp rfl _ _ _) rfl ?_
      exact .inr ⟨rfl, hJx⟩
  · have hn1 : n = 0 := by omega
    have hnz : ¬ (0 : Int) < (n : Int) := by omega
    rw [if_neg hn0] at hte
    subst hte
    refine callsIn_of_wp Tryd.func68 rfl trivial ?_ rfl
    simp only [Tryd.ntmps68, List.size_toArray, List.length_cons, List.length_nil, Nat.reduceAdd, Nat.reduceSub, Array.replicate_succ, Array.replicate_zero, List.push_toArray, List.append_toArray, List.nil_append, List.cons_append]
    gi_wp2
    refine hRd.mono ?_
    rintro e' W2 (⟨rfl, hJ2, hK2⟩ | ⟨rfl, hJx⟩)
    · have hB2 := hB1.kept hK2
      have c3 := hB2.cell 3 _ rfl
      have c4 := hB2.cell 4 _ rfl
      have c7 := hB2.cell 7 _ rfl
      have c8 := hB2.cell 8 _ rfl
      obtain ⟨hx4, hx5, hqL⟩ := hstop 0 (i + 1) W2 (by omega) HS.out (by have := HL.out; simp only [List.drop_zero]; omega)
      obtain ⟨fn4, tmps4, assign4, body4, hy4, hRd4⟩ := hR _ _ _ hx4 hJ2
      simp only [encLn, Int.cast_ofNat_Int] at hy4
      gi_wp2
      gi_loopw [35] (fun i wr => i = .int .i64 0 ∧ wr = W2) (fun _ _ => 0)
      case atStart => exact ⟨rfl, rfl⟩
      case round =>
        obtain ⟨rfl, rfl⟩ := hrel
        gi_wp2
        refine hRd4.mono ?_
        rintro e' W3 (⟨rfl, hJ3, hK3⟩ | ⟨rfl, hJx⟩)
        · have hB3 := hB2.kept hK3
          have d3 := hB3.cell 3 _ rfl
          have d4 := hB3.cell 4 _ rfl
          have d7 := hB3.cell 7 _ rfl
          have d8 := hB3.cell 8 _ rfl
          obtain ⟨fn5, tmps5, assign5, body5, hy5, hRd5⟩ := hR _ _ _ hx5 hJ3
          simp only [encLn, Int.cast_ofNat_Int] at hy5
          gi_wp2
          refine hRd5.mono ?_
          rintro e' W4 (⟨rfl, hJ4, hK4⟩ | ⟨rfl, hJx⟩)
          · gi_wp2
            refine bodyPost_ret (results_tmp rfl _ _ _) rfl ?_
            refine .inl ⟨rfl, ?_, keep _ (kept_trans hK2 (kept_trans hK3 hK4))⟩
            rw [← hqL]
            exact hJ4
          · gi_wp2
            refine bodyPost_ret (results_tmp rfl _ _ _) rfl ?_
            exact .inr ⟨rfl, hJx⟩
        · gi_wp2
          refine ⟨(fun f h => by simp at h), ?_⟩
          gi_wp2
          refine bodyPost_ret (results_tmp rfl _ _ _) rfl ?_
          exact .inr ⟨rfl, hJx⟩
    · gi_wp2
      refine bodyPost_ret (results_tmp rfl _ _ _) rfl ?_
      exact .inr ⟨rfl, hJx⟩
theorem tilesP_one (h b : Nat × Nat) (kids : List Pt) (cuts : List (Nat × Nat)) (e : Nat × Nat) : tilesP (.mk 1 h b kids cuts e) = (0, h.1, h.2) :: multiT b kids cuts e := by
  rw [tilesP, if_pos rfl, multiT]
mutual
theorem walk_seg (base : World) : ∀ (p : Pt) (x : Value), PIs base p x → (tilesP p).length < 1099511627776 → SegOk 48 x (tilesP p) base
  | .mk k h b kids cuts e, x, hp, hlen => by
    rw [PIs] at hp
    obtain ⟨ka, ca, kcap, ccap, rfl, h1, h2, h3, h4⟩ := hp
    have hk := walkl_seg base kids ka h3
    refine walk_node base k h b kids cuts e ka ca kcap ccap hk hlen fun k1 => ?_
    subst k1
    rw [tilesP_one] at hlen
    exact multi_node base h b kids cuts e ka ca kcap ccap hk h4 h1 h2 (by rw [List.length_cons] at hlen; omega)
theorem walkl_seg (base : World) : ∀ (l : List Pt) (a : Option Addr), PIsL base l a 0 → KidsOk base l a := fun l a h j q hj hq => by
    have := walkl_at base l a 0 h j q hj hq
    simpa using this
theorem walkl_at (base : World) : ∀ (l : List Pt) (a : Option Addr) (i : Nat), PIsL base l a i → ∀ (j : Nat) q, l[j]? = some q → (tilesP q).length < 1099511627776 →
      ∃ (B o : Nat) (k f1 t1 f2 t2 f3 t3 : Int) (na la nb lb : Nat) (a' b : Option Addr), a = some ⟨B, o, none⟩ ∧
    LiesAt base B (o + (i + j) * 9) [.int .i64 k, .int .i64 f1, .int .i64 t1, .int .i64 f2, .int .i64 t2, .slice a' na la, .slice b nb lb, .int .i64 f3, .int .i64 t3] ∧
    SegOk 48 (.agg #[.int .i64 k, .int .i64 f1, .int .i64 t1, .int .i64 f2, .int .i64 t2, .slice a' na la, .slice b nb lb, .int .i64 f3, .int .i64 t3]) (tilesP q) base
  | p :: r, a, i, hp, 0, q, hj, hq => by
    simp at hj; subst hj
    rw [PIsL] at hp
    obtain ⟨⟨B, o, cs, ha, h1, h2⟩, _⟩ := hp
    have hseg := walk_seg base p _ h1 hq
    cases p with
    | mk k h b kids cuts e =>
      rw [PIs] at h1
      obtain ⟨ka, ca, kcap, ccap, hx, _⟩ := h1
      rw [hx] at hseg
      have hcs : cs = [.int .i64 (k : Nat), .int .i64 (h.1 : Nat), .int .i64 (h.2 : Nat), .int .i64 (b.1 : Nat), .int .i64 (b.2 : Nat), .slice ka kids.length kcap, .slice ca cuts.length ccap, .int .i64 (e.1 : Nat), .int .i64 (e.2 : Nat)] := by
        have := congrArg (fun v => match v with | Value.agg a => a.toList | _ => []) hx
        simpa using this
      rw [hcs] at h2
      exact ⟨B, o, _, _, _, _, _, _, _, _, _, _, _, _, _, ha, h2, hseg⟩
  | p :: r, a, i, hp, j + 1, q, hj, hq => by
    rw [PIsL] at hp
    have := walkl_at base r a (i + 1) hp.2 j q (by simpa using hj) hq
    rw [show i + 1 + j = i + (j + 1) by omega] at this
    exact this
end
end Go.Proofs.YtemgbdncidgoiaaDoor
end
section
namespace Go.Proofs.YtemgbdncidgoiaaDoor
open Go.RowKit Go.Shelf Go.Rg
attribute [local go_sem] Oper.semAt_some
set_option maxRecDepth 100000 in
set_option maxHeartbeats 1000000 in
theorem tiles1_at (base : World) (B : Nat) (p : Pt) (cs : Array Value) (hp : PIs base p (.agg cs)) (hlen : (tilesP p).length < 1099511627776)
    (l : Nat) (J : Nat → World → Prop) (Jx : World → Prop) (T : World → Nat → Prop) (W : World) (hab : Go.Rg.Abides base J T) (hR : Go.Rg.Rounds Tryd.prog l encLn (tilesP p) J Jx T) (h0 : J 0 W) (hBW : W.heap[B]? = some (.cells cs 28 (0, 0))) :
    CallsIn Fence.wide 1 Tryd.prog 47 #[.func (.yield l) #[] #[], .pointer (some ⟨B, 0, none⟩)] W fun e W' => (∃ v, e = .returned v) ∧ (J (tilesP p).length W' ∨ Jx W') := by
  have hseg := walk_seg base p _ hp hlen l (tilesP p) 0 J Jx T W hab hR (fun k x hx => by rw [Nat.zero_add]; exact hx) h0
  cases p with
  | mk k h b kids cuts e =>
    rw [PIs] at hp
    obtain ⟨ka, ca, kcap, ccap, hx, _⟩ := hp
    cases hx
    have cell : ∀ (j : Nat) (v : Value), (#[Value.int .i64 (k : Nat), .int .i64 (h.1 : Nat), .int .i64 (h.2 : Nat), .int .i64 (b.1 : Nat), .int .i64 (b.2 : Nat), .slice ka kids.length kcap, .slice ca cuts.length ccap, .int .i64 (e.1 : Nat), .int .i64 (e.2 : Nat)])[j]? = some v → W.cell? ⟨B, j, none⟩ = some v := by
      intro j v hv
      simp only [World.cell?, hBW]
      exact hv
    have c0 := cell 0 _ rfl
    have c1 := cell 1 _ rfl
    have c2 := cell 2 _ rfl
    have c3 := cell 3 _ rfl
    have c4 := cell 4 _ rfl
    have c5 := cell 5 _ rfl
    have c6 := cell 6 _ rfl
    have c7 := cell 7 _ rfl
    have c8 := cell 8 _ rfl
    generalize htl : (tilesP (.mk k h b kids cuts e)).length = L at *
    refine callsIn_of_wp Tryd.func47 rfl trivial ?_ rfl
    simp only [Tryd.ntmps47, List.size_toArray, List.length_cons, List.length_nil, Nat.reduceAdd, Nat.reduceSub, Array.replicate_succ, Array.replicate_zero, List.push_toArray, List.append_toArray, List.nil_append, List.cons_append]
    gi_wp2
    refine ⟨trivial, (callsIn_wide.2 (callsIn_wide.1 hseg)).mono ?_⟩
    rintro e' W4 (⟨rfl, hJ4, hK4⟩ | ⟨rfl, hJx⟩)
    · gi_wp2
      go_end0
      refine ⟨⟨_, rfl⟩, .inl ?_⟩
      rwa [Nat.zero_add] at hJ4
    · gi_wp2
      go_end0
      exact ⟨⟨_, rfl⟩, .inr hJx⟩
theorem tiles1_tells (base : World) (B : Nat) (p : Pt) (cs : Array Value) (hB : base.heap[B]? = some (.cells cs 28 (0, 0))) (hp : PIs base p (.agg cs)) (hlen : (tilesP p).length < 1099511627776) :
    Tells Tryd.prog 47 #[.pointer (some ⟨B, 0, none⟩)] encLn (tilesP p) base := by
  intro l J Jx T W hab hR h0
  exact tiles1_at base B p cs hp hlen l J Jx T W hab hR h0 (((hab.old 0 W h0).block B (Array.getElem?_eq_some_iff.1 hB).1).trans hB)
set_option maxHeartbeats 1000000 in
theorem tall_c (k f1 t1 f2 t2 f3 t3 : Int) (na la nb lb : Nat) (a b : Option Addr) (w : World) : Calls Tryd.prog 34 #[.agg #[.int .i64 k, .int .i64 f1, .int .i64 t1, .int .i64 f2, .int .i64 t2, .slice a na la, .slice b nb lb, .int .i64 f3, .int .i64 t3]] w fun e w' =>
    e = .returned (.func (.func 47) #[] #[.pointer (some ⟨w.heap.size, 0, none⟩)]) ∧ w' = w.alloc (.cells #[.int .i64 k, .int .i64 f1, .int .i64 t1, .int .i64 f2, .int .i64 t2, .slice a na la, .slice b nb lb, .int .i64 f3, .int .i64 t3] 28) := by
  go_enter Tryd.func34, Tryd.ntmps34
  go_wp2
  go_ret
  exact ⟨rfl, rfl⟩
set_option maxHeartbeats 1000000 in
theorem tof_c (p : Pt) (x : Value) (w : World) (hp : PIs w p x) (hlen : (tilesP p).length < 1099511627776) :
    Calls Tryd.prog 24 #[x] w fun e w' => ∃ v : Value, e = .returned v ∧ w'.ownsRow w.heap.size 50 3 v (tilesP p).length (cellsLn (tilesP p)) ∧ Below w.heap.size w w' := by
  have hp0 := hp
  cases p with
  | mk k h b kids cuts e =>
    rw [PIs] at hp
    obtain ⟨ka, ca, kcap, ccap, rfl, _⟩ := hp
    generalize hT : tilesP (.mk k h b kids cuts e) = TT at hlen
    obtain ⟨CS, hCS⟩ : ∃ CS, #[Value.int .i64 (k : Nat), .int .i64 (h.1 : Nat), .int .i64 (h.2 : Nat), .int .i64 (b.1 : Nat), .int .i64 (b.2 : Nat), .slice ka kids.length kcap, .slice ca cuts.length ccap, .int .i64 (e.1 : Nat), .int .i64 (e.2 : Nat)] = CS := ⟨_, rfl⟩
    have hb2 : Below w.heap.size w ((w.alloc (.cells CS 28)).alloc (.cells CS 28)) := ((Below.refl _ w).alloc (Nat.le_refl _) _).alloc (by simp) _
    have ht : Tells Tryd.prog 47 #[.pointer (some ⟨w.heap.size + 1, 0, none⟩)] encLn TT ((w.alloc (.cells CS 28)).alloc (.cells CS 28)) := by
      rw [← hT] at hlen ⊢
      refine tiles1_tells _ _ _ CS ?_ ?_ hlen
      · have := World.alloc_heap_new (w.alloc (.cells CS 28)) (.cells CS 28)
        rwa [World.size_alloc] at this
      · rw [hCS] at hp0
        exact PIs.below hb2 _ _ hp0
    subst hCS
    go_enter Tryd.func24, Tryd.ntmps24
    go_wp2_with (first
      | (go_at_call 34; refine (tall_c _ _ _ _ _ _ _ _ _ _ _ _ _ _).mono ?_; rintro e' w' ⟨rfl, hw⟩; rw [hw])
      | (go_at_call 35; refine (collectTl_in 47 _ (enters_of Tryd.func47 (by kernel_rfl) rfl) TT ?c1 ?c2 _ ?c3).mono ?_))
    case c1 => unfold maxLen; omega
    case c2 => omega
    case c3 => simpa using ht
    rintro e' w' ⟨v, rfl, hrow, hb⟩
    go_wp2
    go_ret
    refine ⟨v, rfl, ownsRow_base hrow (by simp; omega), hb2.trans (hb.mono (by simp; omega))⟩
end Go.Proofs.YtemgbdncidgoiaaDoor
end
section
namespace Go.Proofs.YtemgbdncidgoiaaDoor
open Go.RowKit Go.Shelf Go.Rg
attribute [local go_sem] Oper.semAt_some
theorem chainT_app : ∀ (l : List (Nat × Nat × Nat)) (a b : Int) (x : Nat × Nat × Nat), chainT a l = some b → chainT a (l ++ [x]) = if (x.2.1 : Int) = b ∧ b ≤ (x.2.2 : Int) then some ((x.2.2 : Nat) : Int) else none
  | [], a, b, x, h => by simp only [chainT, Option.some.injEq] at h; subst h; rfl
  | t :: r, a, b, x, h => by
    simp only [chainT, List.cons_append] at h ⊢
    split at h
    · rename_i hc; rw [if_pos hc]; exact chainT_app r _ b x h
    · cases h
theorem chainT_none : ∀ (l r : List (Nat × Nat × Nat)) (a : Int), chainT a l = none → chainT a (l ++ r) = none
  | [], r, a, h => by simp [chainT] at h
  | t :: l, r, a, h => by
    simp only [chainT, List.cons_append] at h ⊢
    split
    · rename_i hc; rw [if_pos hc] at h; exact chainT_none l r _ h
    · rfl
noncomputable def ckAssign : Code := (Code.region 7 #[{ dst := some 6, op := Op.alloc 50, type := 0, pos := "tiles.go:96", after := #[], guard := none }, { dst := none, op := Op.store 50 (Operand.tmp 6) (Operand.tmp 27), type := 0, pos := "tiles.go:96", after := #[{ on := 0, ground := Ground.data }, { on := 0, ground := Ground.phase }], guard := none }] false)
noncomputable def ckBody : Code := (Code.block 1 (((Code.region 8 #[{ dst := some 28, op := Op.fieldAddr 50 (Operand.tmp 6) 1, type := 0, pos := "tiles.go:97", after := #[], guard := none }, { dst := some 29, op := Op.fieldAddr 24 (Operand.tmp 28) 0, type := 0, pos := "tiles.go:97", after := #[{ on := 0, ground := Ground.data }], guard := none }, { dst := some 30, op := Op.load 3 (Operand.tmp 29), type := 3, pos := "tiles.go:97", after := #[{ on := 1, ground := Ground.data }], guard := none }, { dst := some 31, op := Op.load 3 (Operand.tmp 5), type := 3, pos := "tiles.go:97", after := #[], guard := none }, { dst := some 32, op := Op.binOp BinOp.neq 3 (Operand.tmp 30) (Operand.tmp 31) 3, type := 4, pos := "tiles.go:97", after := #[{ on := 2, ground := Ground.data }, { on := 3, ground := Ground.data }], guard := none }, { dst := some 33, op := Op.move (Operand.tmp 32), type := 4, pos := "tiles.go:97", after := #[{ on := 4, ground := Ground.data }], guard := none }, { dst := some 34, op := Op.fieldAddr 50 (Operand.tmp 6) 1, type := 0, pos := "tiles.go:97", after := #[{ on := 5, ground := Ground.guard }], guard := some (5, false) }, { dst := some 35, op := Op.fieldAddr 24 (Operand.tmp 34) 1, type := 0, pos := "tiles.go:97", after := #[{ on := 6, ground := Ground.data }, { on := 5, ground := Ground.guard }], guard := some (5, false) }, { dst := some 36, op := Op.load 3 (Operand.tmp 35), type := 3, pos := "tiles.go:97", after := #[{ on := 7, ground := Ground.data }, { on := 5, ground := Ground.guard }], guard := some (5, false) }, { dst := some 37, op := Op.load 3 (Operand.tmp 5), type := 3, pos := "tiles.go:97", after := #[{ on := 5, ground := Ground.guard }], guard := some (5, false) }, { dst := some 38, op := Op.binOp BinOp.lss 3 (Operand.tmp 36) (Operand.tmp 37) 3, type := 4, pos := "tiles.go:97", after := #[{ on := 8, ground := Ground.data }, { on := 9, ground := Ground.data }, { on := 5, ground := Ground.guard }], guard := some (5, false) }, { dst := some 39, op := Op.pick (Operand.tmp 33) (Operand.const (Value.bool true)) (Operand.tmp 38), type := 4, pos := "tiles.go:97", after := #[{ on := 5, ground := Ground.data }, { on := 10, ground := Ground.data }], guard := none }] false).seq (Code.cond (Operand.tmp 39) ((Code.region 9 #[{ dst := none, op := Op.store 29 (Operand.tmp 4) (Operand.const (Value.int IntKind.i64 11)), type := 0, pos := "tiles.go:98", after := #[], guard := none }] false).seq Code.ret) Code.skip)).seq (Code.region 10 #[{ dst := some 40, op := Op.fieldAddr 50 (Operand.tmp 6) 1, type := 0, pos := "tiles.go:100", after := #[], guard := none }, { dst := some 41, op := Op.fieldAddr 24 (Operand.tmp 40) 1, type := 0, pos := "tiles.go:100", after := #[{ on := 0, ground := Ground.data }], guard := none }, { dst := some 42, op := Op.load 3 (Operand.tmp 41), type := 3, pos := "tiles.go:100", after := #[{ on := 1, ground := Ground.data }], guard := none }, { dst := none, op := Op.store 3 (Operand.tmp 5) (Operand.tmp 42), type := 0, pos := "tiles.go:100", after := #[{ on := 2, ground := Ground.data }, { on := 0, ground := Ground.phase }, { on := 1, ground := Ground.phase }, { on := 2, ground := Ground.phase }], guard := none }] false)))
structure ChkI (base : World) (rec : Loop) (R A l D : Nat) (res at_ : Int) (W : World) : Prop where
  res : Boxed W R 29 (.int .i64 res)
  at_ : Boxed W A 3 (.int .i64 at_)
  L : W.heap[l]? = some (.loop rec)
  K : W.heap[D]? = some (.deferred (some []))
  below : Below base.heap.size base W
def ChkT (R A l D : Nat) (W : World) (r : Nat) : Prop := r < W.heap.size ∧ (r = R ∨ r = A ∨ r = l ∨ r = D)
theorem ChkI.grown {base : World} {rec : Loop} {R A l D : Nat} {res at_ : Int} {W W' : World} {row : Option Nat} (h : ChkI base rec R A l D res at_ W) (hg : W.grownBy W' row) (hr : ∀ r, row = some r → base.heap.size ≤ r ∧ r ≠ R ∧ r ≠ A ∧ r ≠ l ∧ r ≠ D) : ChkI base rec R A l D res at_ W' :=
  ⟨h.res.kept hg (fun e => (hr R e.symm).2.1 rfl), h.at_.kept hg (fun e => (hr A e.symm).2.2.1 rfl),
   (hg.block l (Array.getElem?_eq_some_iff.1 h.L).1 (fun e => (hr l e.symm).2.2.2.1 rfl)).trans h.L, (hg.block D (Array.getElem?_eq_some_iff.1 h.K).1 (fun e => (hr D e.symm).2.2.2.2 rfl)).trans h.K,
   h.below.grown hg h.below.size fun k e => (hr k e).1⟩
set_option maxRecDepth 100000 in
set_option maxHeartbeats 2000000 in
theorem ckRound (base : World) (fn : FuncId) (R A l D : Nat) (hRA : R ≠ A) (hRl : R ≠ l) (hRD : R ≠ D) (hAl : A ≠ l) (hAD : A ≠ D) (hlD : l ≠ D) (h0R : base.heap.size ≤ R) (h0A : base.heap.size ≤ A) (h0l : base.heap.size ≤ l)
    {u0 u1 u2 u3 u6 u7 u8 u9 u10 u11 u12 u13 u14 u15 u16 u17 u18 u19 u20 u21 u22 u23 u24 u25 u26 u27 u28 u29 u30 u31 u32 u33 u34 u35 u36 u37 u38 u39 u40 u41 u42 u43 u44 u45 : Value} (rec : Loop) (hrec : rec = { state := .ready, pending := none, fn, tmps := #[u0, u1, u2, u3, .pointer (some ⟨R, 0, none⟩), .pointer (some ⟨A, 0, none⟩), u6, u7, u8, u9, u10, u11, u12, u13, u14, u15, u16, u17, u18, u19, u20, u21, u22, u23, u24, u25, u26, u27, u28, u29, u30, u31, u32, u33, u34, u35, u36, u37, u38, u39, u40, u41, u42, u43, u44, u45], params := #[27], assign := ckAssign, body := ckBody, defers := D })
    (a : Int) (x : Nat × Nat × Nat) (W : World) (h : ChkI base rec R A l D 0 a W) :
    YieldAt Fence.wide 0 Tryd.prog l #[encLn x] W fun e W' =>
      (((x.2.1 : Int) = a ∧ a ≤ (x.2.2 : Int)) ∧ e = .returned (.bool true) ∧ ChkI base rec R A l D 0 (x.2.2 : Nat) W' ∧ Go.Rg.Kept (ChkT R A l D) W W') ∨
      (¬ ((x.2.1 : Int) = a ∧ a ≤ (x.2.2 : Int)) ∧ e = .returned (.bool false) ∧ ChkI base { rec with state := .done, pending := some .ret } R A l D 11 a W') := by
  suffices H : ∀ Q : Ending → World → Prop, (∀ W', ((x.2.1 : Int) = a ∧ a ≤ (x.2.2 : Int)) → ChkI base rec R A l D 0 (x.2.2 : Nat) W' → Go.Rg.Kept (ChkT R A l D) W W' → Q (.returned (.bool true)) W') →
      (∀ W', ¬ ((x.2.1 : Int) = a ∧ a ≤ (x.2.2 : Int)) → ChkI base { rec with state := .done, pending := some .ret } R A l D 11 a W' → Q (.returned (.bool false)) W') → YieldAt Fence.wide 0 Tryd.prog l #[encLn x] W Q from
    H _ (fun W' h1 h2 h3 => .inl ⟨h1, rfl, h2, h3⟩) (fun W' h1 h2 => .inr ⟨h1, rfl, h2⟩)
  intro Q hQ1 hQ2
  have HQ : Aside ((∀ W', ((x.2.1 : Int) = a ∧ a ≤ (x.2.2 : Int)) → ChkI base rec R A l D 0 (x.2.2 : Nat) W' → Go.Rg.Kept (ChkT R A l D) W W' → Q (.returned (.bool true)) W') ∧
      (∀ W', ¬ ((x.2.1 : Int) = a ∧ a ≤ (x.2.2 : Int)) → ChkI base { rec with state := .done, pending := some .ret } R A l D 11 a W' → Q (.returned (.bool false)) W')) := ⟨hQ1, hQ2⟩
  clear hQ1 hQ2
  have hyl : (Instr.yield l #[encLn x]).run Tryd.prog W = .ok (.round l fn #[u0, u1, u2, u3, .pointer (some ⟨R, 0, none⟩), .pointer (some ⟨A, 0, none⟩), u6, u7, u8, u9, u10, u11, u12, u13, u14, u15, u16, u17, u18, u19, u20, u21, u22, u23, u24, u25, u26, encLn x, u28, u29, u30, u31, u32, u33, u34, u35, u36, u37, u38, u39, u40, u41, u42, u43, u44, u45] ckAssign ckBody) W := by simpa [hrec] using run_yield (P := Tryd.prog) (args := #[encLn x]) h.L (by rw [hrec]; rfl)
  have hst : rec.state = .ready := by rw [hrec]
  have hid : ({ { rec with state := .busy } with state := if (none : Option Code).isNone then .ready else .done, pending := none } : Loop) = rec := by rw [hrec]; rfl
  clear hrec
  refine ⟨fn, #[u0, u1, u2, u3, .pointer (some ⟨R, 0, none⟩), .pointer (some ⟨A, 0, none⟩), u6, u7, u8, u9, u10, u11, u12, u13, u14, u15, u16, u17, u18, u19, u20, u21, u22, u23, u24, u25, u26, encLn x, u28, u29, u30, u31, u32, u33, u34, u35, u36, u37, u38, u39, u40, u41, u42, u43, u44, u45], ckAssign, ckBody, hyl, roundIn_of_wpIn trivial ?_⟩
  clear hyl
  have hl : l < W.heap.size := (Array.getElem?_eq_some_iff.1 h.L).1
  unfold ckAssign encLn
  gi_wp2_with (rw [Oper.semAt_eq _ _ _ (fun c h => by cases h)]; go_simp; try go_bits)
  obtain ⟨Wa, hWa⟩ : ∃ Wa, W.alloc (.cells #[.int .i64 x.1, .int .i64 x.2.1, .int .i64 x.2.2] 50) = Wa := ⟨_, rfl⟩
  have hga : W.grownBy Wa none := by rw [← hWa]; exact World.grownBy_alloc _ _ _
  have hxa : Wa.heap[W.heap.size]? = some (.cells #[.int .i64 x.1, .int .i64 x.2.1, .int .i64 x.2.2] 50 (0, 0)) := by rw [← hWa]; exact World.alloc_heap_new W _
  rw [hWa]
  clear hWa
  have ha : ChkI base rec R A l D 0 a Wa := h.grown hga (fun r e => by cases e)
  have hbr := run_beginRound (P := Tryd.prog) ha.L hst
  obtain ⟨W2, hW2⟩ : ∃ W2, Wa.putObj l (.loop { rec with state := .busy }) = W2 := ⟨_, rfl⟩
  rw [hW2] at hbr
  have hla : l < Wa.heap.size := (Array.getElem?_eq_some_iff.1 ha.L).1
  have hg2 : Wa.grownBy W2 (some l) := by rw [← hW2]; exact grownBy_putObj _ _ _
  have hxl : W.heap.size < Wa.heap.size := (Array.getElem?_eq_some_iff.1 hxa).1
  have hx2 : W2.heap[W.heap.size]? = some (.cells #[.int .i64 x.1, .int .i64 x.2.1, .int .i64 x.2.2] 50 (0, 0)) := (hg2.block _ hxl (by simp; omega)).trans hxa
  have h2 : ChkI base { rec with state := .busy } R A l D 0 a W2 :=
    ⟨ha.res.kept hg2 (by simpa using hRl), ha.at_.kept hg2 (by simpa using hAl), by rw [← hW2]; exact World.putObj_heap_same hla,
     (hg2.block D (Array.getElem?_eq_some_iff.1 ha.K).1 (by simpa using hlD.symm)).trans ha.K, ha.below.grown hg2 ha.below.size (fun k e => by cases e; exact h0l)⟩
  clear hW2
  have keep : ∀ (W4 : World) (X : Nat) (o : Obj), W2.grownBy W4 (some X) → X = R ∨ X = A → ∀ (W5 : World), W5 = W4.putObj l o → Go.Rg.Kept (ChkT R A l D) W W5 := by
    intro W4 X o hg4 hX W5 h5
    subst h5
    have hg5 : W4.grownBy (W4.putObj l o) (some l) := grownBy_putObj _ _ _
    refine ⟨Nat.le_trans hga.size (Nat.le_trans hg2.size (Nat.le_trans hg4.size hg5.size)), fun j hj hT => ?_⟩
    have hjR : j ≠ R := fun e => hT ⟨hj, .inl e⟩
    have hjA : j ≠ A := fun e => hT ⟨hj, .inr (.inl e)⟩
    have hjl : j ≠ l := fun e => hT ⟨hj, .inr (.inr (.inl e))⟩
    have hjD : j ≠ D := fun e => hT ⟨hj, .inr (.inr (.inr e))⟩
    have hjX : j ≠ X := by rcases hX with rfl | rfl <;> assumption
    have s1 := Nat.lt_of_lt_of_le hj hga.size
    have s2 := Nat.lt_of_lt_of_le s1 hg2.size
    have s3 := Nat.lt_of_lt_of_le s2 hg4.size
    refine ⟨(hg5.block j s3 (by simpa using hjl)).trans ((hg4.block j s2 (by simpa using hjX)).trans ((hg2.block j s1 (by simpa using hjl)).trans (hga.block j hj (by simp)))), ?_⟩
    rintro ⟨_, e | e | e | e⟩
    · exact hjR e
    · exact hjA e
    · exact hjl e
    · exact hjD e
  have stop : ¬ ((x.2.1 : Int) = a ∧ a ≤ (x.2.2 : Int)) → ∃ v w', (Instr.endRound l (some .ret)).run Tryd.prog (W2.setCell ⟨R, 0, none⟩ (.int .i64 11)) = .ok v w' ∧ Q (.returned v) w' := by
    intro hn
    have hg4 := grownBy_setCell W2 ⟨R, 0, none⟩ (.int .i64 11)
    have h4 : ChkI base { rec with state := .busy } R A l D 11 a (W2.setCell ⟨R, 0, none⟩ (.int .i64 11)) :=
      ⟨h2.res.set _, h2.at_.kept hg4 (by simpa using hRA.symm), (hg4.block l (Array.getElem?_eq_some_iff.1 h2.L).1 (by simpa using hRl.symm)).trans h2.L,
       (hg4.block D (Array.getElem?_eq_some_iff.1 h2.K).1 (by simpa using hRD.symm)).trans h2.K, h2.below.grown hg4 h2.below.size (fun k e => by cases e; exact h0R)⟩
    refine ⟨_, _, run_endRound (some .ret) h4.L, HQ.out.2 _ hn ?_⟩
    have hg5 := grownBy_putObj (W2.setCell ⟨R, 0, none⟩ (.int .i64 11)) l (.loop { { rec with state := .busy } with state := if (some Code.ret).isNone then .ready else .done, pending := some .ret })
    exact ⟨h4.res.kept hg5 (by simpa using hRl), h4.at_.kept hg5 (by simpa using hAl), World.putObj_heap_same (Array.getElem?_eq_some_iff.1 h4.L).1,
      (World.putObj_heap_other hlD.symm).trans h4.K, h4.below.grown hg5 h4.below.size (fun k e => by cases e; exact h0l)⟩
  have gon : ((x.2.1 : Int) = a ∧ a ≤ (x.2.2 : Int)) → ∃ v w', (Instr.endRound l none).run Tryd.prog (W2.setCell ⟨A, 0, none⟩ (.int .i64 (x.2.2 : Nat))) = .ok v w' ∧ Q (.returned v) w' := by
    intro hn
    have hg4 := grownBy_setCell W2 ⟨A, 0, none⟩ (.int .i64 (x.2.2 : Nat))
    have h4 : ChkI base { rec with state := .busy } R A l D 0 (x.2.2 : Nat) (W2.setCell ⟨A, 0, none⟩ (.int .i64 (x.2.2 : Nat))) :=
      ⟨h2.res.kept hg4 (by simpa using hRA), h2.at_.set _, (hg4.block l (Array.getElem?_eq_some_iff.1 h2.L).1 (by simpa using hAl.symm)).trans h2.L,
       (hg4.block D (Array.getElem?_eq_some_iff.1 h2.K).1 (by simpa using hAD.symm)).trans h2.K, h2.below.grown hg4 h2.below.size (fun k e => by cases e; exact h0A)⟩
    refine ⟨_, _, run_endRound none h4.L, HQ.out.1 _ hn ?_ (keep _ A _ hg4 (.inr rfl) _ rfl)⟩
    have hg5 := grownBy_putObj (W2.setCell ⟨A, 0, none⟩ (.int .i64 (x.2.2 : Nat))) l (.loop { { rec with state := .busy } with state := if (none : Option Code).isNone then .ready else .done, pending := none })
    rw [hid] at hg5
    rw [hid]
    exact ⟨h4.res.kept hg5 (by simpa using hRl), h4.at_.kept hg5 (by simpa using hAl), World.putObj_heap_same (Array.getElem?_eq_some_iff.1 h4.L).1,
      (World.putObj_heap_other hlD.symm).trans h4.K, h4.below.grown hg5 h4.below.size (fun k e => by cases e; exact h0l)⟩
  have x0 : W2.cell? ⟨W.heap.size, 0, none⟩ = some (.int .i64 x.1) := by simp [World.cell?, hx2]
  have x1 : W2.cell? ⟨W.heap.size, 1, none⟩ = some (.int .i64 x.2.1) := by simp [World.cell?, hx2]
  have x2 : W2.cell? ⟨W.heap.size, 2, none⟩ = some (.int .i64 x.2.2) := by simp [World.cell?, hx2]
  have r1 := h2.res.cell
  have r2 := h2.res.frozen
  have a1 := h2.at_.cell
  have a2 := h2.at_.frozen
  refine ⟨W2, hbr, ?_⟩
  clear hbr hst
  unfold ckBody
  have STOP := (show Hid _ from stop)
  have GON := (show Hid _ from gon)
  clear stop gon keep hid HQ
  by_cases c1 : (x.2.1 : Int) = a
  · by_cases c2 : (x.2.2 : Int) < a
    · gi_wp2
      exact STOP.out (fun h => by omega)
    · gi_wp2
      exact GON.out ⟨by omega, by omega⟩
  · have c1' : ((x.2.1 : Int) == a) = false := by simpa using c1
    gi_wp2
    exact STOP.out (fun h => c1 h.1)
end Go.Proofs.YtemgbdncidgoiaaDoor
end
section
namespace Go.Proofs.YtemgbdncidgoiaaDoor
open Go.RowKit Go.Shelf Go.Rg
attribute [local go_sem] Oper.semAt_some
theorem wpIn_range_outer {F : Fence} {n : Nat} {P : Program} {g : Operand} {ps : Array Tmp} {assign body : Code} {Q : Exit → Act → World → Prop} {a : Act} {w : World}
    (hro : F.round = none) (h1 : 1 ≤ n) {gf : Nat} {lb : Array Value} (hg : a.eval g = .func (.func gf) #[] lb) (hFg : F.fn gf) (eg : ∀ args w, (callFunc gf args).run P w = .ok (.enter gf args) w)
    (h : ∀ (fn : FuncId) (rec : Loop) (W1 : World), rec = { state := .ready, pending := none, fn, tmps := a.tmps, params := ps, assign, body, defers := w.heap.size } → W1 = (w.alloc (.deferred (some []))).alloc (.loop rec) →
      CallsIn F (n - 1) P gf (#[.func (.yield (w.heap.size + 1)) #[] #[]] ++ lb) W1 (rangePost F n P (w.heap.size + 1) Q { a with defers := [{ target := .collected w.heap.size, args := #[] }] ++ a.defers })) :
    (Code.rangeFunc g ps assign body).wpIn F n P Q a w := by
  refine wpIn_rangeFunc ?_
  intro fn hfn
  rw [hro]
  obtain ⟨rec, hrec⟩ : ∃ rec : Loop, rec = { state := .ready, pending := none, fn, tmps := a.tmps, params := ps, assign, body, defers := w.heap.size } := ⟨_, rfl⟩
  obtain ⟨W1, hW1⟩ : ∃ W1, W1 = (w.alloc (.deferred (some []))).alloc (.loop rec) := ⟨_, rfl⟩
  have hcall := h fn rec W1 hrec hW1
  refine ⟨w.heap.size + 1, [{ target := .collected w.heap.size, args := #[] }], W1, { target := .fn (.func gf) lb, args := #[.func (.yield (w.heap.size + 1)) #[] #[]] }, W1, gf,
    #[.func (.yield (w.heap.size + 1)) #[] #[]] ++ lb, W1, ?_, ?_, ?_, ?_, fun _ => h1, ?_⟩
  · rw [hW1, hrec]; exact run_enterLoop_outer _ _ _ _ _
  · simp only [resolve, hg]
    simp [go_sem]
  · intro f' hf'; simp [Target.leads] at hf'; subst hf'; exact hFg
  · simp [invoke, go_sem, eg]
  · exact hcall
theorem ck_abides (base : World) (rec : Loop) (R A l D : Nat) (f : Nat → Int → Prop) : Go.Rg.Abides base (fun i W => ∃ a, f i a ∧ ChkI base rec R A l D 0 a W) (ChkT R A l D) where
  step := by
    rintro i W W' row ⟨a, hf, h⟩ hg hrow
    have k1 := h.res.lt
    have k2 := h.at_.lt
    have k3 := (Array.getElem?_eq_some_iff.1 h.L).1
    have k4 := (Array.getElem?_eq_some_iff.1 h.K).1
    refine ⟨⟨a, hf, h.grown hg fun r e => ⟨(hrow r e).1, ?_, ?_, ?_, ?_⟩⟩, ?_⟩
    · intro e'; subst e'; exact (hrow _ e).2 ⟨k1, .inl rfl⟩
    · intro e'; subst e'; exact (hrow _ e).2 ⟨k2, .inr (.inl rfl)⟩
    · intro e'; subst e'; exact (hrow _ e).2 ⟨k3, .inr (.inr (.inl rfl))⟩
    · intro e'; subst e'; exact (hrow _ e).2 ⟨k4, .inr (.inr (.inr rfl))⟩
    · rintro r ⟨_, h1⟩
      refine ⟨?_, h1⟩
      rcases h1 with rfl | rfl | rfl | rfl <;> assumption
  lt := fun i W r _ ht => ht.1
  old := by rintro i W ⟨a, _, h⟩; exact h.below
theorem ck_shut {base : World} {rec : Loop} {R A l D : Nat} {res at_ : Int} {W : World} (h : ChkI base rec R A l D res at_ W) (hRl : R ≠ l) (hAl : A ≠ l) (hlD : l ≠ D) (h0l : base.heap.size ≤ l) (rec' : Loop) : ChkI base rec' R A l D res at_ (W.putObj l (.loop rec')) := by
  have hg := grownBy_putObj W l (.loop rec')
  exact ⟨h.res.kept hg (by simpa using hRl), h.at_.kept hg (by simpa using hAl), World.putObj_heap_same (Array.getElem?_eq_some_iff.1 h.L).1, (World.putObj_heap_other hlD.symm).trans h.K, h.below.grown hg h.below.size (fun k e => by cases e; exact h0l)⟩
theorem ck_res {base : World} {rec : Loop} {R A l D : Nat} {res at_ : Int} {W : World} (h : ChkI base rec R A l D res at_ W) (hRA : R ≠ A) (hRl : R ≠ l) (hRD : R ≠ D) (h0R : base.heap.size ≤ R) (res' : Int) : ChkI base rec R A l D res' at_ (W.setCell ⟨R, 0, none⟩ (.int .i64 res')) := by
  have hg := grownBy_setCell W ⟨R, 0, none⟩ (.int .i64 res')
  exact ⟨h.res.set _, h.at_.kept hg (by simpa using hRA.symm), (hg.block l (Array.getElem?_eq_some_iff.1 h.L).1 (by simpa using hRl.symm)).trans h.L, (hg.block D (Array.getElem?_eq_some_iff.1 h.K).1 (by simpa using hRD.symm)).trans h.K, h.below.grown hg h.below.size (fun k e => by cases e; exact h0R)⟩
theorem ck_fin {base : World} {rec : Loop} {R A l D : Nat} {res at_ : Int} {W : World} (h : ChkI base rec R A l D res at_ W) (hRD : R ≠ D) (h0D : base.heap.size ≤ D) :
    (W.putObj D (.deferred none)).cell? ⟨R, 0, none⟩ = some (.int .i64 res) ∧ Below base.heap.size base (W.putObj D (.deferred none)) := by
  have hg := grownBy_putObj W D (.deferred none)
  exact ⟨(h.res.kept hg (by simpa using hRD)).cell, h.below.grown hg h.below.size (fun k e => by cases e; exact h0D)⟩
def Says (w : World) (f : Nat) (x v : Value) : Prop := ∀ W, Below w.heap.size w W → Calls Tryd.prog f #[x] W fun e W' => e = .returned v ∧ Below W.heap.size W W'
structure ChkS (w : World) (CS : Array Value) (W : World) : Prop where
  bel : Below w.heap.size w W
  box : W.heap[w.heap.size]? = some (.cells CS 28 (0, 0))
  res : Boxed W (w.heap.size + 1) 29 (.int .i64 0)
theorem ChkS.first (w : World) (CS : Array Value) : ChkS w CS ((w.alloc (.cells CS 28)).alloc (.cells #[.int .i64 0] 29)) :=
  ⟨((Below.refl _ w).alloc (Nat.le_refl _) _).alloc (by simp) _, (Below.heap_alloc _ _ _ (by simp)).trans (World.alloc_heap_new w _), by
    have := World.alloc_heap_new (w.alloc (.cells CS 28)) (.cells #[.int .i64 0] 29)
    rwa [World.size_alloc] at this⟩
theorem ChkS.next {w : World} {CS : Array Value} {W W' : World} (h : ChkS w CS W) (hb : Below W.heap.size W W') : ChkS w CS W' := by
  have h1 := (Array.getElem?_eq_some_iff.1 h.box).1
  have h2 := h.res.lt
  exact ⟨h.bel.trans (hb.mono h.bel.size), (hb.block _ h1).trans h.box, (hb.block _ h2).trans h.res⟩
theorem ChkS.cell {w : World} {CS : Array Value} {W : World} (h : ChkS w CS W) (j : Nat) (v : Value) (hv : CS[j]? = some v) : W.cell? ⟨w.heap.size, j, none⟩ = some v := by
  simp only [World.cell?, h.box]
  exact hv
theorem res23 (tmps : Array Value) (W : World) (B : Nat) (v : Value) (hp : tmps.getD 4 undef = .pointer (some ⟨B, 0, none⟩)) (hv : W.cell? ⟨B, 0, none⟩ = some v) : (results Tryd.f23 tmps).run Tryd.prog W = .ok v W := by
  have h : Tryd.f23.results = #[.cell 4 29] := rfl
  have hp' : tmps[4]?.getD undef = .pointer (some ⟨B, 0, none⟩) := by simpa using hp
  simp [results, h, hp', asAddr, loadVar, isAgg, Tryd.underlying29, hv, go_sem]
theorem boxed_end {w : World} {CS : Array Value} {W : World} (h : ChkS w CS W) (v : Value) : (W.setCell ⟨w.heap.size + 1, 0, none⟩ v).cell? ⟨w.heap.size + 1, 0, none⟩ = some v ∧ Below w.heap.size w (W.setCell ⟨w.heap.size + 1, 0, none⟩ v) :=
  ⟨(h.res.set v).cell, h.bel.grown (grownBy_setCell _ _ _) h.bel.size (fun k e => by cases e; simp)⟩
set_option maxRecDepth 100000 in
set_option maxHeartbeats 1000000 in
theorem tcheck_in (p : Pt) (x : Value) (n : Int) (w : World) (hp : PIs w p x) (hlen : (tilesP p).length < 1099511627776) (c d a b : Int) (ft : Bool)
    (hc : Says w 17 x (.int .i64 c)) (hd : Says w 18 x (.int .i64 d)) (hf : Says w 33 x (.bool ft)) (hb : Says w 25 x (.agg #[.int .i64 a, .int .i64 b])) :
    CallsIn Fence.wide 2 Tryd.prog 23 #[x, .int .i64 n] w fun e w' => e = .returned (.int .i64 (errT c d ft a b n (tilesP p))) ∧ Below w.heap.size w w' := by
  have hp0 := hp
  cases p with
  | mk k h b' kids cuts e =>
    rw [PIs] at hp
    obtain ⟨ka, ca, kcap, ccap, rfl, _⟩ := hp
    generalize hT : tilesP (.mk k h b' kids cuts e) = TT at hlen ⊢
    have s0 := ChkS.first w #[.int .i64 (k : Nat), .int .i64 (h.1 : Nat), .int .i64 (h.2 : Nat), .int .i64 (b'.1 : Nat), .int .i64 (b'.2 : Nat), .slice ka kids.length kcap, .slice ca cuts.length ccap, .int .i64 (e.1 : Nat), .int .i64 (e.2 : Nat)]
    obtain ⟨err, herr⟩ : ∃ err, errT c d ft a b n TT = err := ⟨_, rfl⟩
    rw [herr]
    have HERR : Aside (errT c d ft a b n TT = err) := herr
    clear herr
    refine callsIn_of_wp_marks Tryd.func23 rfl trivial ?_ rfl
    simp only [Tryd.ntmps23, List.size_toArray, List.length_cons, List.length_nil, Nat.reduceAdd, Nat.reduceSub, Array.replicate_succ, Array.replicate_zero, List.push_toArray, List.append_toArray, List.nil_append, List.cons_append]
    gi_wp2
    refine ⟨trivial, (callsIn_wide.2 (hc _ s0.bel)).mono ?_⟩
    rintro e1 w1 ⟨rfl, hb1⟩
    have s1 := s0.next hb1
    clear hb1 s0
    have c0 := s1.cell 0 _ rfl
    have c1 := s1.cell 1 _ rfl
    have c2 := s1.cell 2 _ rfl
    have c3 := s1.cell 3 _ rfl
    have c4 := s1.cell 4 _ rfl
    have c5 := s1.cell 5 _ rfl
    have c6 := s1.cell 6 _ rfl
    have c7 := s1.cell 7 _ rfl
    have c8 := s1.cell 8 _ rfl
    have r1 := s1.res.cell
    have r2 := s1.res.frozen
    by_cases h1 : c > 1000
    · have h1' : (1000 : Int) < c := h1
      gi_wp2
      refine ⟨trivial, ?_⟩
      gi_wp2
      refine ⟨_, res23 _ _ (w.heap.size + 1) _ rfl (boxed_end s1 _).1, ?_, (boxed_end s1 _).2⟩
      rw [← HERR.out, errT, if_pos (by omega)]
    · have h1' : ¬ (1000 : Int) < c := h1
      gi_wp2
      refine ⟨trivial, (callsIn_wide.2 (hd _ s1.bel)).mono ?_⟩
      rintro e2 w2 ⟨rfl, hb2⟩
      have s2 := s1.next hb2
      clear hb2 s1 c0 c1 c2 c3 c4 c5 c6 c7 c8 r1 r2
      have c0 := s2.cell 0 _ rfl
      have c1 := s2.cell 1 _ rfl
      have c2 := s2.cell 2 _ rfl
      have c3 := s2.cell 3 _ rfl
      have c4 := s2.cell 4 _ rfl
      have c5 := s2.cell 5 _ rfl
      have c6 := s2.cell 6 _ rfl
      have c7 := s2.cell 7 _ rfl
      have c8 := s2.cell 8 _ rfl
      have r1 := s2.res.cell
      have r2 := s2.res.frozen
      by_cases h2 : d > 32
      · have h2' : (32 : Int) < d := h2
        gi_wp2
        refine ⟨_, res23 _ _ (w.heap.size + 1) _ rfl (boxed_end s2 _).1, ?_, (boxed_end s2 _).2⟩
        rw [← HERR.out, errT, if_pos (by omega)]
      · have h2' : ¬ (32 : Int) < d := h2
        gi_wp2
        refine ⟨trivial, (callsIn_wide.2 (hf _ s2.bel)).mono ?_⟩
        rintro e3 w3 ⟨rfl, hb3⟩
        have s3 := s2.next hb3
        clear hb3 s2 c0 c1 c2 c3 c4 c5 c6 c7 c8 r1 r2
        have c0 := s3.cell 0 _ rfl
        have c1 := s3.cell 1 _ rfl
        have c2 := s3.cell 2 _ rfl
        have c3 := s3.cell 3 _ rfl
        have c4 := s3.cell 4 _ rfl
        have c5 := s3.cell 5 _ rfl
        have c6 := s3.cell 6 _ rfl
        have c7 := s3.cell 7 _ rfl
        have c8 := s3.cell 8 _ rfl
        have r1 := s3.res.cell
        have r2 := s3.res.frozen
        cases ft with
        | false =>
          gi_wp2
          refine ⟨trivial, ?_⟩
          gi_wp2
          refine ⟨_, res23 _ _ (w.heap.size + 1) _ rfl (boxed_end s3 _).1, ?_, (boxed_end s3 _).2⟩
          rw [← HERR.out, errT, if_neg (by omega), if_pos (.inl rfl)]
        | true =>
          gi_wp2
          refine ⟨trivial, (callsIn_wide.2 (hb _ s3.bel)).mono ?_⟩
          rintro e4 w4 ⟨rfl, hb4⟩
          have s4 := s3.next hb4
          clear hb4 s3 c0 c1 c2 c3 c4 c5 c6 c7 c8 r1 r2
          have c0 := s4.cell 0 _ rfl
          have c1 := s4.cell 1 _ rfl
          have c2 := s4.cell 2 _ rfl
          have c3 := s4.cell 3 _ rfl
          have c4 := s4.cell 4 _ rfl
          have c5 := s4.cell 5 _ rfl
          have c6 := s4.cell 6 _ rfl
          have c7 := s4.cell 7 _ rfl
          have c8 := s4.cell 8 _ rfl
          have r1 := s4.res.cell
          have r2 := s4.res.frozen
          by_cases hab : a = 0 ∧ b = n
          · have he : err = (if chainT 0 TT = some n then 0 else 11) := by rw [← HERR.out, errT, if_neg (by omega), if_neg (by simp [hab])]
            have HE : Aside (err = (if chainT 0 TT = some n then 0 else 11)) := he
            obtain ⟨rfl, rfl⟩ := hab
            have s5 := s4.next (((Below.refl _ w4).alloc (Nat.le_refl _) (.cells #[.int .i64 0] 3)))
            have hA : Boxed (w4.alloc (.cells #[.int .i64 0] 3)) w4.heap.size 3 (.int .i64 0) := World.alloc_heap_new w4 _
            clear HERR he s4 c0 c1 c2 c3 c4 c5 c6 c7 c8 r1 r2
            have c0 := s5.cell 0 _ rfl
            have c1 := s5.cell 1 _ rfl
            have c2 := s5.cell 2 _ rfl
            have c3 := s5.cell 3 _ rfl
            have c4 := s5.cell 4 _ rfl
            have c5 := s5.cell 5 _ rfl
            have c6 := s5.cell 6 _ rfl
            have c7 := s5.cell 7 _ rfl
            have c8 := s5.cell 8 _ rfl
            have r1 := s5.res.cell
            have r2 := s5.res.frozen
            gi_wp2
            refine ⟨trivial, (callsIn_wide.2 (tall_c _ _ _ _ _ _ _ _ _ _ _ _ _ _)).mono ?_⟩
            rintro e5 w5 ⟨rfl, hw5⟩
            rw [hw5]
            clear hw5
            obtain ⟨W0, hW0⟩ : ∃ W0, (w4.alloc (.cells #[.int .i64 0] 3)).alloc (.cells #[.int .i64 (k : Nat), .int .i64 (h.1 : Nat), .int .i64 (h.2 : Nat), .int .i64 (b'.1 : Nat), .int .i64 (b'.2 : Nat), .slice ka kids.length kcap, .slice ca cuts.length ccap, .int .i64 (e.1 : Nat), .int .i64 (e.2 : Nat)] 28) = W0 := ⟨_, rfl⟩
            have hz0 : W0.heap.size = w4.heap.size + 2 := by rw [← hW0]; simp
            have hb0 : Below (w4.alloc (.cells #[.int .i64 0] 3)).heap.size (w4.alloc (.cells #[.int .i64 0] 3)) W0 := by rw [← hW0]; exact (Below.refl _ _).alloc (Nat.le_refl _) _
            have s6 := s5.next hb0
            have hA0 : Boxed W0 w4.heap.size 3 (.int .i64 0) := (hb0.block _ (by simp)).trans hA
            have hBx : W0.heap[w4.heap.size + 1]? = some (.cells #[.int .i64 (k : Nat), .int .i64 (h.1 : Nat), .int .i64 (h.2 : Nat), .int .i64 (b'.1 : Nat), .int .i64 (b'.2 : Nat), .slice ka kids.length kcap, .slice ca cuts.length ccap, .int .i64 (e.1 : Nat), .int .i64 (e.2 : Nat)] 28 (0, 0)) := by
              rw [← hW0]
              have := World.alloc_heap_new (w4.alloc (.cells #[.int .i64 0] 3)) (.cells #[.int .i64 (k : Nat), .int .i64 (h.1 : Nat), .int .i64 (h.2 : Nat), .int .i64 (b'.1 : Nat), .int .i64 (b'.2 : Nat), .slice ka kids.length kcap, .slice ca cuts.length ccap, .int .i64 (e.1 : Nat), .int .i64 (e.2 : Nat)] 28)
              rwa [World.size_alloc] at this
            have hw4 : w.heap.size + 1 < w4.heap.size := by have := s5.res.lt; simp at this; rcases Nat.lt_or_ge (w.heap.size + 1) w4.heap.size with h | h; exact h; exfalso; have h2 : w4.heap.size = w.heap.size + 1 := by omega
                                                            have h3 := hA; rw [h2] at h3; have := h3.symm.trans s5.res; cases this
            gi_wp2
            try rw [hW0]
            clear c0 c1 c2 c3 c4 c5 c6 c7 c8 r1 r2 s5 hA hb0 hW0
            refine wpIn_range_outer rfl (by decide) (gf := 47) (lb := #[.pointer (some ⟨w4.heap.size + 1, 0, none⟩)]) rfl trivial (enters_of Tryd.func47 (by kernel_rfl) rfl) ?_
            intro fn rec W1 hrec hW1
            have hl1 : W1.heap[W0.heap.size + 1]? = some (.loop rec) := by
              rw [hW1]
              have := World.alloc_heap_new (W0.alloc (.deferred (some []))) (.loop rec)
              rwa [World.size_alloc] at this
            have hk1 : W1.heap[W0.heap.size]? = some (.deferred (some [])) := by
              rw [hW1]
              exact (Below.heap_alloc _ _ _ (by simp)).trans (World.alloc_heap_new W0 _)
            have hb1 : Below W0.heap.size W0 W1 := by rw [hW1]; exact ((Below.refl _ W0).alloc (Nat.le_refl _) _).alloc (by simp) _
            have s7 := s6.next hb1
            have hA1 : Boxed W1 w4.heap.size 3 (.int .i64 0) := (hb1.block _ (by omega)).trans hA0
            have hBx1 := (hb1.block _ (by omega)).trans hBx
            have hDl : W0.heap.size < W1.heap.size := (Array.getElem?_eq_some_iff.1 hk1).1
            have n1 : w.heap.size + 1 ≠ w4.heap.size := by omega
            have n2 : w.heap.size + 1 ≠ W0.heap.size + 1 := by omega
            have n3 : w.heap.size + 1 ≠ W0.heap.size := by omega
            have n4 : w4.heap.size ≠ W0.heap.size + 1 := by omega
            have n5 : w4.heap.size ≠ W0.heap.size := by omega
            have n6 : W0.heap.size + 1 ≠ W0.heap.size := by omega
            have m1 : w.heap.size ≤ w.heap.size + 1 := by omega
            have m2 : w.heap.size ≤ w4.heap.size := by omega
            have m3 : w.heap.size ≤ W0.heap.size + 1 := by omega
            have m4 : w.heap.size ≤ W0.heap.size := by omega
            have hI0 : ChkI w rec (w.heap.size + 1) w4.heap.size (W0.heap.size + 1) W0.heap.size 0 0 W1 := ⟨s7.res, hA1, hl1, hk1, s7.bel⟩
            clear hW1 hb1 s6 hA0 hBx hk1 hl1 hA1 s7 hDl hz0 hw4 hc hd hf hb
            have hrs : rec.state = .ready := by rw [hrec]
            have hrp : rec.pending = none := by rw [hrec]
            have hround := fun a' x' W' h' => ckRound w fn (w.heap.size + 1) w4.heap.size (W0.heap.size + 1) W0.heap.size n1 n2 n3 n4 n5 n6 m1 m2 m3 rec hrec a' x' W' h'
            clear hrec
            subst hT
            refine (tiles1_at w (w4.heap.size + 1) (.mk k h b' kids cuts e) _ hp0 hlen (W0.heap.size + 1)
              (fun i W => ∃ at_, chainT 0 ((tilesP (.mk k h b' kids cuts e)).take i) = some at_ ∧ ChkI w rec (w.heap.size + 1) w4.heap.size (W0.heap.size + 1) W0.heap.size 0 at_ W)
              (fun W => chainT 0 (tilesP (.mk k h b' kids cuts e)) = none ∧ ∃ at_, ChkI w { rec with state := .done, pending := some .ret } (w.heap.size + 1) w4.heap.size (W0.heap.size + 1) W0.heap.size 11 at_ W)
              (ChkT (w.heap.size + 1) w4.heap.size (W0.heap.size + 1) W0.heap.size) W1 (ck_abides w rec _ _ _ _ (fun i at_ => chainT 0 ((tilesP (.mk k h b' kids cuts e)).take i) = some at_)) ?_ ⟨0, rfl, hI0⟩ hBx1).mono ?_
            · rintro i x W hx ⟨at_, hch, hI⟩
              obtain ⟨fn', tmps', as', bd', hy, hR⟩ := hround at_ x W hI
              refine ⟨fn', tmps', as', bd', hy, hR.mono ?_⟩
              have hstep := chainT_app _ _ _ x hch
              have htk : (tilesP (.mk k h b' kids cuts e)).take (i + 1) = (tilesP (.mk k h b' kids cuts e)).take i ++ [x] := by rw [List.take_add_one, hx]; rfl
              rintro e' W' (⟨hcnd, rfl, hI', hk'⟩ | ⟨hcnd, rfl, hI'⟩)
              · rw [if_pos hcnd] at hstep
                exact .inl ⟨rfl, ⟨_, by rw [htk]; exact hstep, hI'⟩, hk'⟩
              · rw [if_neg hcnd] at hstep
                refine .inr ⟨rfl, ?_, _, hI'⟩
                rw [← List.take_append_drop (i + 1) (tilesP (.mk k h b' kids cuts e)), htk]
                exact chainT_none _ _ _ hstep
            generalize tilesP (.mk k h b' kids cuts e) = TT at HE
            clear hround hI0 hBx1 hp0 hlen
            rintro e' W2 ⟨⟨v0, rfl⟩, ⟨at_, hch, hI⟩ | ⟨hch, at_, hI⟩⟩
            · rw [List.take_length] at hch
              have hend := run_endLoop (P := Tryd.prog) hI.L (by rw [hrs]; simp)
              rw [hrp] at hend
              have hI3 := ck_shut hI n2 n4 n6 m3 { rec with state := .exhausted }
              rw [hrp] at hI3
              obtain ⟨W3, hW3⟩ : ∃ W3, W2.putObj (W0.heap.size + 1) (.loop { rec with state := .exhausted }) = W3 := ⟨_, rfl⟩
              rw [hrp] at hW3
              rw [hW3] at hend hI3
              clear hW3 hI
              refine ⟨none, W3, hend, ?_⟩
              have r1 := hI3.res.cell
              have r2 := hI3.res.frozen
              have a1 := hI3.at_.cell
              have hE0 : at_ = b → err = 0 := fun e => by rw [HE.out, if_pos (by rw [hch, e])]
              have hE1 : ¬ at_ = b → err = 11 := fun e => by rw [HE.out, if_neg (by rw [hch]; simpa using e)]
              have HE0 := (show Hid _ from hE0)
              have HE1 := (show Hid _ from hE1)
              clear hE0 hE1 hch HE hend hrs hrp
              by_cases hab : at_ = b
              · gi_wp2
                obtain ⟨q1, q2⟩ := ck_fin (ck_res hI3 n1 n2 n3 m1 0) n3 m4
                refine ⟨by simp, .inl ⟨_, _, rfl, run_takeDeferred (ck_res hI3 n1 n2 n3 m1 0).K, ?_⟩⟩
                exact ⟨_, res23 _ _ (w.heap.size + 1) _ rfl q1, by rw [HE0.out hab], q2⟩
              · have hab' : (at_ == b) = false := by simpa using hab
                gi_wp2
                obtain ⟨q1, q2⟩ := ck_fin (ck_res hI3 n1 n2 n3 m1 11) n3 m4
                refine ⟨by simp, .inl ⟨_, _, rfl, run_takeDeferred (ck_res hI3 n1 n2 n3 m1 11).K, ?_⟩⟩
                exact ⟨_, res23 _ _ (w.heap.size + 1) _ rfl q1, by rw [HE1.out hab], q2⟩
            · have hend := run_endLoop (P := Tryd.prog) hI.L (by simp)
              have hI3 := ck_shut hI n2 n4 n6 m3 { { rec with state := .done, pending := some .ret } with state := .exhausted }
              obtain ⟨W3, hW3⟩ : ∃ W3, W2.putObj (W0.heap.size + 1) (.loop { { rec with state := .done, pending := some .ret } with state := .exhausted }) = W3 := ⟨_, rfl⟩
              rw [hW3] at hend hI3
              clear hW3 hI
              refine ⟨some .ret, W3, hend, ?_⟩
              have hE1 : err = 11 := by rw [HE.out, if_neg (by rw [hch]; simp)]
              have HE1 := (show Hid _ from hE1)
              clear hE1 hch HE hend hrs hrp
              gi_wp2
              obtain ⟨q1, q2⟩ := ck_fin hI3 n3 m4
              refine ⟨by simp, .inl ⟨_, _, rfl, run_takeDeferred hI3.K, ?_⟩⟩
              exact ⟨_, res23 _ _ (w.heap.size + 1) _ rfl q1, by rw [HE1.out], q2⟩
          · have he : 11 = err := by rw [← HERR.out, errT, if_neg (by omega), if_pos (.inr hab)]
            have HE : Aside (11 = err) := he
            clear HERR he
            gi_wp2
            all_goals
              refine ⟨_, res23 _ _ (w.heap.size + 1) _ rfl (boxed_end s4 _).1, ?_, (boxed_end s4 _).2⟩
              rw [← HE.out]
end Go.Proofs.YtemgbdncidgoiaaDoor
end
section
namespace Go.Proofs.YtemgbdncidgoiaaDoor
open Go.ChangeShapes Go.WideShapes Go.ChangeAt Go.RowKit Go.Ev
theorem own : ownKnob Tryd.prog.godebug = none := by kernel_rfl
def litCells : DataW Unit → List Value
  | .lit (.int k n) => [.int k n]
  | _ => []
def rowCells : DataW Unit → List Value
  | .agg ps => ps.flatMap litCells
  | d => litCells d
def tabCells : DataW Unit → List Value
  | .agg ps => ps.flatMap rowCells
  | d => litCells d
def layCells (cs : List Value) : Obj → Obj
  | .cells _ t frozen => .cells cs.toArray t frozen
  | o => o
noncomputable def laidWorld (os : Os) : World :=
  { World.holding Tryd.prog os ⟨#[], #[], []⟩ with
    heap := ((World.holding Tryd.prog os ⟨#[], #[], []⟩).heap.modify 2 (layCells (tabCells Rows.laid_unicode_utf8_acceptRanges))).modify 1 (layCells (tabCells Rows.laid_unicode_utf8_first)) }
theorem funOk_of {c : Cfg} {f : FuncId} {F : Go.Ev.Fun}
    (h : ∀ args objs v objs', F args objs = some (v, objs') → objs = [] ∧ objs' = [] ∧ ∀ fn rsh, c.fn f = some fn → rshOf c f fn = some rsh → fitsRes rsh v = true ∧
      ∀ (w : World) (G : Gh) (cargs : List Value), (∀ b, w.heap.size ≤ b → G b = 0) → cargs.length = args.length → (∀ (i : Nat) v x, args[i]? = some v → cargs[i]? = some x → Rep c w G [] v x) →
        Calls c.P f cargs.toArray w fun e w' => ∃ u G', e = .returned u ∧ WExt w G w' G' ∧ Rep c w' G' [] v u ∧ leaf3 v u = []) : FunOk c f F := by
  refine ⟨fun args objs v objs' _ hF => ?_, fun fn rsh hfn hrsh args objs v objs' hF w G μ cargs hlen hinv => ?_⟩
  · obtain ⟨rfl, rfl, _⟩ := h args objs v objs' hF; rfl
  · obtain ⟨rfl, rfl, hh⟩ := h args objs v objs' hF
    obtain ⟨h1, h2⟩ := hh fn rsh hfn hrsh
    have hμ : μ = [] := List.eq_nil_of_length_eq_zero hinv.olen.symm
    subst hμ
    refine ⟨h1, by unfold Cfg.osh; split <;> rfl, (h2 w G cargs hinv.none hlen hinv.rep).mono ?_⟩
    rintro e w' ⟨u, G', rfl, hx, hr, hl⟩
    refine ⟨u, G', rfl, ?_⟩
    have hsim0 : Sim c (entry w G [] args cargs []) w G [] args cargs [] :=
      ⟨hinv, ⟨Nat.le_refl _, Seal.refl w G, fun _ _ _ => ⟨rfl, rfl⟩, rfl, rfl, rfl⟩, fun b _ h => h, [], by simp [entry]⟩
    exact ((hsim0.ext hx).push hr hl).firsts (fr := [v]) (cfr := [u]) rfl
def low8 (b : UInt8) : UInt8 := UInt8.ofNat (lowI b.toNat).toNat
def foldF : Go.Ev.Fun
  | [.str s], [] => if s.length < 4294967281 then some (.str (s.map low8), []) else none
  | _, _ => none
def idxF : Go.Ev.Fun
  | [.str s, .str [b]], [] => some (.int .i64 (Lib.indexByte s b), [])
  | _, _ => none
def cutK (b : UInt8) : Nat → List UInt8 → List (List UInt8)
  | 0, s => [s]
  | k + 1, s => if Lib.indexByte s b = -1 then [s] else s.take (Lib.indexByte s b).toNat :: cutK b k (s.drop ((Lib.indexByte s b).toNat + 1))
def splitF : Go.Ev.Fun
  | [.str s, .str [b], .int k n], [] => if k = .i64 ∧ 0 < n ∧ n < 1000 ∧ s.length < 4294967281 then some (.lst 9 false ((cutK b (min n.toNat (s.length + 1) - 1) s).map V.str), []) else none
  | _, _ => none
def lnV (x : Nat × Nat × Nat) : V := .agg [.int .i64 x.1, .int .i64 x.2.1, .int .i64 x.2.2]
def ofF : Go.Ev.Fun
  | [.lst 5 _ bs, .agg [.int .i64 fr, .int .i64 to]], [] => if bs.all byteV && decide (bs.length < 1099511627776) then some (.lst 104 false ((linesOf fr to (bytesOf bs)).map lnV), []) else none
  | _, _ => none
def ixbF : Go.Ev.Fun
  | [.str s, .int .u8 n], [] => if 0 ≤ n ∧ n < 256 then some (.int .i64 (Lib.indexByte s (UInt8.ofNat n.toNat)), []) else none
  | _, _ => none
def cloneF : Go.Ev.Fun
  | [.lst 5 _ bs], [] => if bs.all byteV && decide (bs.length < 1099511627776) then some (.lst 5 false bs, []) else none
  | _, _ => none
noncomputable def tofF : Go.Ev.Fun
  | [pv], [] => (tilesV pv).map fun ts => (.lst 50 false (ts.map lnV), [])
  | _, _ => none
noncomputable def tcheckF (call : FuncId → Go.Ev.Fun) : Go.Ev.Fun
  | [pv, .int .i64 n], [] => match tilesV pv, call 17 [pv] [], call 18 [pv] [], call 33 [pv] [], call 25 [pv] [] with
    | some ts, some (.int .i64 c, []), some (.int .i64 d, []), some (.bool ft, []), some (.agg [.int .i64 a, .int .i64 b], []) => some (.int .i64 (errT c d ft a b n ts), [])
    | _, _, _, _, _ => none
  | _, _ => none
noncomputable def hand0 (f : FuncId) : Option Go.Ev.Fun :=
  if f = 65 then some foldF else if f = 115 then some splitF else if f = 113 then some idxF else
  if f = 55 then some ofF else if f = 79 then some ixbF else
  if f = 54 then some cloneF else if f = 24 then some tofF else
  if f = 108 then some checkF else if f = 92 then some textF else none
noncomputable def hand (f : FuncId) : Option ((FuncId → Go.Ev.Fun) → Go.Ev.Fun) := if f = 23 then some tcheckF else (hand0 f).map fun h _ => h
def ro (f : FuncId) : Bool := [99, 100].contains f
def pur (f : FuncId) : Bool := [3,4,5,6,7,8,9,10,11,12,13,14,15,16,17,18,19,20,21,22,23,24,25,26,27,28,29,30,32,33,36,37,38,39,41,46,50,51,52,53,54,55,56,57,58,59,60,61,62,63,64,65,66,69,70,71,72,73,77,78,79,84,85,86,87,90,97,98,101,103,104,105,106,107,110,111,113,114,115,116].contains f
def rshc (f : FuncId) : Option (List RSh) := if f = 91 then some [⟨false, [.int .i64]⟩, ⟨false, [.nili]⟩] else none
def bldc (t : TypeId) : Bool := t == 152
def cutc (f : FuncId) : Bool := f == 92
def ownc (t : TypeId) : Bool := t == 109
noncomputable def cfg : Cfg := cfgOf hand (fun _ _ => false) (fun _ => false) ro pur rshc bldc cutc ownc
theorem ro_code (f : FuncId) (x : Func) (h0 : fnT f = some x) (h1 : (match x.body with | some b => roCode cfg b | none => true) = true) : ∀ y, fnT f = some y → ∀ b, y.body = some b → roCode cfg b = true := by
  intro y hy b hb
  rw [h0] at hy; cases hy
  rw [hb] at h1; exact h1
theorem cfg_ok : CfgOk cfg := cfgOk _ _ _ _ _ _ _ _ _ (by
  intro f x hf hx b hb
  have hf' : f ∈ [99, 100] := by simpa [ro] using hf
  simp only [List.mem_cons, List.not_mem_nil, or_false] at hf'
  rcases hf' with rfl | rfl
  · exact ro_code _ Tryd.f99 (by kernel_rfl) (by kernel_rfl) x hx b hb
  · exact ro_code _ Tryd.f100 (by kernel_rfl) (by kernel_rfl) x hx b hb)
theorem str_at {c : Cfg} {w : World} {G : Gh} {args : List V} {cargs : List Value} (hr : ∀ (i : Nat) v x, args[i]? = some v → cargs[i]? = some x → Rep c w G [] v x) (hl : cargs.length = args.length) {i : Nat} {s : List UInt8}
    (h : args[i]? = some (.str s)) : cargs[i]? = some (.string ⟨s.toArray⟩) := by
  have hi := (List.getElem?_eq_some_iff.1 h).1
  have hx := List.getElem?_eq_getElem (l := cargs) (i := i) (by omega)
  rw [hx, str_of (hr i _ _ h hx) rfl]
theorem int_at {c : Cfg} {w : World} {G : Gh} {args : List V} {cargs : List Value} (hr : ∀ (i : Nat) v x, args[i]? = some v → cargs[i]? = some x → Rep c w G [] v x) (hl : cargs.length = args.length) {i : Nat} {k : IntKind} {n : Int}
    (h : args[i]? = some (.int k n)) : cargs[i]? = some (.int k n) := by
  have hi := (List.getElem?_eq_some_iff.1 h).1
  have hx := List.getElem?_eq_getElem (l := cargs) (i := i) (by omega)
  rw [hx, int_of (hr i _ _ h hx) rfl]
theorem fold_ok : FunOk cfg 65 foldF := by
  refine funOk_of fun args objs v objs' hF => ?_
  unfold foldF at hF
  split at hF
  · rename_i s
    split at hF
    · rename_i hs
      cases hF
      refine ⟨rfl, rfl, fun fn rsh hfn hrsh => ?_⟩
      have h1 : cfg.fn 65 = some Tryd.f65 := by kernel_rfl
      have h2 : rshOf cfg 65 Tryd.f65 = some [⟨false, [.str]⟩] := by kernel_rfl
      rw [h1] at hfn; cases hfn
      rw [h2] at hrsh; cases hrsh
      refine ⟨rfl, fun w G cargs hn hl hr => ?_⟩
      have e0 := str_at hr hl (i := 0) rfl
      match cargs, hl, e0 with
      | [x], _, e0 =>
        simp at e0; subst e0
        have := fold_c ⟨s.toArray⟩ w (by simpa [ByteArray.size] using hs)
        refine this.mono ?_
        rintro e w' ⟨rfl, hf⟩
        refine ⟨_, G, rfl, ⟨by have := hf.size; omega, fun b hb => ⟨hf.old b hb, rfl⟩, fun b hb => hn b (by have := hf.size; omega), hf.os, hf.out, hf.tape⟩, ?_, rfl⟩
        exact .str _
    · cases hF
  · cases hF
theorem idx_ok : FunOk cfg 113 idxF := by
  refine funOk_of fun args objs v objs' hF => ?_
  unfold idxF at hF
  split at hF
  · rename_i s b
    cases hF
    · refine ⟨rfl, rfl, fun fn rsh hfn hrsh => ?_⟩
      have h1 : cfg.fn 113 = some Tryd.f113 := by kernel_rfl
      have h2 : rshOf cfg 113 Tryd.f113 = some [⟨false, [.int .i64]⟩] := by kernel_rfl
      rw [h1] at hfn; cases hfn
      rw [h2] at hrsh; cases hrsh
      refine ⟨rfl, fun w G cargs hn hl hr => ?_⟩
      have e0 := str_at hr hl (i := 0) rfl
      have e1 := str_at hr hl (i := 1) rfl
      match cargs, hl, e0, e1 with
      | [x, y], _, e0, e1 =>
        simp at e0 e1; subst e0; subst e1
        refine (index_c ⟨s.toArray⟩ b w).mono ?_
        rintro e w' ⟨rfl, rfl⟩
        exact ⟨_, G, rfl, ⟨Nat.le_refl _, fun b hb => ⟨rfl, rfl⟩, hn, rfl, rfl, rfl⟩, .int _ _, rfl⟩
  · cases hF
theorem cutK_split (b : UInt8) : ∀ (k : Nat) (s : List UInt8), Lib.splitK [b] 0 k s = cutK b k s
  | 0, s => rfl
  | k + 1, s => by
    simp only [Lib.splitK, cutK, index_byte, cutK_split b k, Nat.add_zero, List.length_singleton]
    by_cases h : Lib.indexByte s b = -1
    · simp [h]
    · simp [h]
theorem split_ok : FunOk cfg 115 splitF := by
  refine funOk_of fun args objs v objs' hF => ?_
  unfold splitF at hF
  split at hF
  · rename_i s b k n
    split at hF
    · rename_i hk
      obtain ⟨rfl, hn0, hn1, hs⟩ := hk
      cases hF
      refine ⟨rfl, rfl, fun fn rsh hfn hrsh => ?_⟩
      have h1 : cfg.fn 115 = some Tryd.f115 := by kernel_rfl
      have h2 : rshOf cfg 115 Tryd.f115 = some [⟨false, [.lst 9 false]⟩] := by kernel_rfl
      rw [h1] at hfn; cases hfn
      rw [h2] at hrsh; cases hrsh
      refine ⟨rfl, fun w G cargs hn hl hr => ?_⟩
      have e0 := str_at hr hl (i := 0) rfl
      have e1 := str_at hr hl (i := 1) rfl
      have e2 := int_at hr hl (i := 2) rfl
      match cargs, hl, e0, e1, e2 with
      | [x, y, z], _, e0, e1, e2 =>
        simp at e0 e1 e2; subst e0; subst e1; subst e2
        have hsz : (⟨s.toArray⟩ : ByteArray).size = s.length := by simp [ByteArray.size]
        generalize hN : min n.toNat (s.length + 1) = N
        have := splitN_c ⟨s.toArray⟩ b n N w (by rw [hsz]; exact hs) hn0 (by omega) (by rw [hsz]; omega)
        refine this.mono ?_
        rintro e w' ⟨rfl, rfl⟩
        generalize hps : Lib.splitB ⟨#[b]⟩ 0 (N - 1) ⟨s.toArray⟩ = ps
        have hdata : ps.map (fun p => p.data.toList) = cutK b (N - 1) s := by
          rw [← hps, Lib.splitB_data, ← cutK_split]
        have hle : ps.length ≤ N := by
          rw [← hps]
          have := Lib.splitB_length_le ⟨#[b]⟩ 0 (N - 1) ⟨s.toArray⟩
          omega
        have hsz9 : tySize cfg 9 = 1 := by kernel_rfl
        have hx : WExt w G (w.alloc (.cells (Lib.cellsOf ps N) 9)) (fun k => if k = w.heap.size then ps.length else G k) := by
          refine ⟨by simp, fun b hb => ⟨?_, by simp [Nat.ne_of_lt hb]⟩, fun b hb => ?_, rfl, rfl, rfl⟩
          · show (w.heap.push _)[b]? = _
            rw [Array.getElem?_push_lt hb, Array.getElem?_eq_getElem hb]
          · have hb' : w.heap.size + 1 ≤ b := by simpa using hb
            have : b ≠ w.heap.size := by omega
            simp [this, hn b (by omega)]
        refine ⟨_, _, rfl, hx, ?_, rfl⟩
        have hvs : (cutK b (N - 1) s).map V.str = ps.map fun p => V.str p.data.toList := by rw [← hdata, List.map_map]; rfl
        rw [hvs]
        have hlen : ps.length = (ps.map fun p => V.str p.data.toList).length := by simp
        have hfl : flat (ps.map Value.string) = ps.map Value.string := by
          clear hvs hlen hx hle hdata hps
          induction ps with
          | nil => rfl
          | cons p ps ih => simp only [flat, List.map_cons, List.flatMap_cons, Value.cells] at ih ⊢; rw [ih]; rfl
        rw [hlen]
        refine .lst 9 false _ _ N (ps.map Value.string) (by simp) (fun i v x hv hx => ?_) (fun v hv => ?_) (fun x hx => ?_) (by rw [hsz9]; omega) (by simpa using hle) ⟨fun h => (by cases h), fun p hp => (by cases hp; simp)⟩ (fun p hp _ => ?_)
        · obtain ⟨p, h1, rfl⟩ := get_map hv
          obtain ⟨p', h2, rfl⟩ := get_map hx
          rw [h1] at h2; cases h2
          exact .str _
        · obtain ⟨p, _, rfl⟩ := List.mem_map.1 hv
          have h9 : cfg.ty 9 = tyT 9 := rfl
          have : ∀ q : List UInt8, fitsE cfg 9 (.str q) = true := by intro q; kernel_rfl
          exact this _
        · obtain ⟨p, _, rfl⟩ := List.mem_map.1 hx
          rw [hsz9]; rfl
        · cases hp
          refine ⟨rfl, fun j x hj => ?_⟩
          rw [hfl] at hj
          have hjl : j < ps.length := by have := (List.getElem?_eq_some_iff.1 hj).1; simpa using this
          refine ⟨?_, by simp; omega⟩
          have hnew : (w.alloc (.cells (Lib.cellsOf ps N) 9)).heap[w.heap.size]? = some (.cells (Lib.cellsOf ps N) 9) := by show (w.heap.push _)[w.heap.size]? = _; simp
          simp only [World.cell?, hnew, Nat.zero_add]
          have : (Lib.cellsOf ps N)[j]? = some x := by
            unfold Lib.cellsOf
            rw [List.getElem?_toArray, List.getElem?_append_left (by simpa using hjl)]
            exact hj
          simpa using this
    · cases hF
  · cases hF
theorem ixb_ok : FunOk cfg 79 ixbF := by
  refine funOk_of fun args objs v objs' hF => ?_
  unfold ixbF at hF
  split at hF
  · rename_i s n
    split at hF
    · rename_i hn'
      cases hF
      refine ⟨rfl, rfl, fun fn rsh hfn hrsh => ?_⟩
      have h1 : cfg.fn 79 = some Tryd.f79 := by kernel_rfl
      have h2 : rshOf cfg 79 Tryd.f79 = some [⟨false, [.int .i64]⟩] := by kernel_rfl
      rw [h1] at hfn; cases hfn
      rw [h2] at hrsh; cases hrsh
      refine ⟨rfl, fun w G cargs hn hl hr => ?_⟩
      have e0 := str_at hr hl (i := 0) rfl
      have e1 := int_at hr hl (i := 1) rfl
      match cargs, hl, e0, e1 with
      | [x, y], _, e0, e1 =>
        simp at e0 e1; subst e0; subst e1
        refine (sIndexByte_c ⟨s.toArray⟩ n w).mono ?_
        rintro e w' ⟨rfl, rfl⟩
        exact ⟨_, G, rfl, ⟨Nat.le_refl _, fun b hb => ⟨rfl, rfl⟩, hn, rfl, rfl, rfl⟩, .int _ _, rfl⟩
    · cases hF
  · cases hF
theorem of_ok : FunOk cfg 55 ofF := by
  refine funOk_of fun args objs v objs' hF => ?_
  unfold ofF at hF
  split at hF
  · rename_i tp bs fr to
    split at hF
    · rename_i hb
      simp only [Bool.and_eq_true, decide_eq_true_eq] at hb
      obtain ⟨hby, hlen⟩ := hb
      cases hF
      refine ⟨rfl, rfl, fun fn rsh hfn hrsh => ?_⟩
      have h1 : cfg.fn 55 = some Tryd.f55 := by kernel_rfl
      have h2 : rshOf cfg 55 Tryd.f55 = some [⟨false, [.lst 104 false]⟩] := by kernel_rfl
      rw [h1] at hfn; cases hfn
      rw [h2] at hrsh; cases hrsh
      refine ⟨rfl, fun w G cargs hn hl hr => ?_⟩
      match cargs, hl with
      | [x, y], _ =>
        obtain ⟨a, cap, lo, rfl, hlo, hrr, hf, hs, hz, hcap, ha, hrow⟩ := lst_of (hr 0 _ x rfl rfl) rfl
        have hy : y = .agg #[.int .i64 fr, .int .i64 to] := by
          have := hr 1 _ y rfl rfl
          cases this with
          | agg _ l hl hs hr2 =>
            match l, hl with
            | [p, q], _ =>
              have e1 := int_of (hr2 0 _ p rfl rfl) rfl
              have e2 := int_of (hr2 1 _ q rfl rfl) rfl
              subst e1; subst e2; rfl
        subst hy
        have hxb := byteV_all hby
        have hbl : (bytesOf bs).length = bs.length := by simp [bytesOf]
        have hlo' : lo = (bytesOf bs).map (fun b => Value.int .u8 b.toNat) := by
          apply List.ext_getElem?
          intro i
          by_cases hi : i < bs.length
          · have e1 : bs[i]? = (ofBytes (bytesOf bs))[i]? := by rw [hxb]
            simp only [ofBytes, List.getElem?_map] at e1
            rw [List.getElem?_eq_getElem (by omega : i < (bytesOf bs).length)] at e1
            have := int_of (hrr i _ lo[i] e1 (List.getElem?_eq_getElem (by omega))) rfl
            rw [List.getElem?_eq_getElem (by omega : i < lo.length), this, List.getElem?_map, List.getElem?_eq_getElem (by omega : i < (bytesOf bs).length)]
            rfl
          · rw [List.getElem?_eq_none (by omega), List.getElem?_eq_none (by simp; omega)]
        have hcall := of_c a cap (bytesOf bs) fr to w (by omega) ha.1 (by omega) (fun p hp hne => by
          obtain ⟨g1, g2⟩ := hrow p hp (fun e => hne (by rw [e]; rfl))
          refine ⟨g1, fun j x hj => ?_⟩
          exact (g2 j (.int .u8 x.toNat) (by rw [hlo', flat_ints, List.getElem?_map, hj]; rfl)).1)
        rw [hbl] at hcall
        refine hcall.mono ?_
        rintro e w' ⟨v, rfl, hown, hbel⟩
        have hsz : tySize cfg 104 = 3 := by kernel_rfl
        have hfit : ∀ p q r : Int, fitsE cfg 104 (.agg [.int .i64 p, .int .i64 q, .int .i64 r]) = true := by intro p q r; kernel_rfl
        have hmk : ∀ (w' : World) (G' : Gh) (xs : List (Nat × Nat × Nat)) (a' : Option Addr) (cap' : Nat), xs.length ≤ cap' → ((a' = none → cap' = 0) ∧ ∀ p, a' = some p → p.block < w'.heap.size) →
            (∀ p, a' = some p → xs ≠ [] → p.spot = none ∧ SRow w' G' p.block p.off (cellsLn xs)) → Rep cfg w' G' [] (.lst 104 false (xs.map lnV)) (.slice a' xs.length cap') := by
          intro w' G' xs a' cap' k1 k2 k3
          have hfl : flat (xs.map encLn) = cellsLn xs := by
            clear k1 k2 k3
            induction xs with
            | nil => rfl
            | cons x xs ih => simp only [flat, List.map_cons, List.flatMap_cons, cellsLn] at ih ⊢; rw [ih]; rfl
          have hlen' : xs.length = (xs.map lnV).length := by simp
          rw [hlen']
          refine .lst 104 false _ a' cap' (xs.map encLn) (by simp) (fun i v x hv hx => ?_) (fun v hv => ?_) (fun x hx => ?_) (by rw [hsz]; omega) (by simpa using k1) k2 (fun p hp hne => ?_)
          · obtain ⟨p, q1, rfl⟩ := get_map hv
            obtain ⟨p', q2, rfl⟩ := get_map hx
            rw [q1] at q2; cases q2
            refine .agg _ [.int .i64 p.1, .int .i64 p.2.1, .int .i64 p.2.2] rfl (fun x hx => ?_) (fun i v x hv hx => ?_)
            · simp at hx; rcases hx with rfl | rfl | rfl <;> rfl
            · match i, hv, hx with
              | 0, hv, hx => simp at hv hx; subst hv; subst hx; exact .int _ _
              | 1, hv, hx => simp at hv hx; subst hv; subst hx; exact .int _ _
              | 2, hv, hx => simp at hv hx; subst hv; subst hx; exact .int _ _
          · obtain ⟨p, _, rfl⟩ := List.mem_map.1 hv
            exact hfit _ _ _
          · obtain ⟨p, _, rfl⟩ := List.mem_map.1 hx
            rw [hsz]; rfl
          · rw [hfl]
            exact k3 p hp (fun e => hne (by rw [e]; rfl))
        rcases hown.2 with ⟨rfl, h0⟩ | ⟨g, cap', cur, rfl, hbg, hgb, hnc, hcm, hcs, htake⟩
        · have hx0 := List.eq_nil_of_length_eq_zero h0
          refine ⟨_, G, rfl, ⟨hbel.size, fun b hb => ⟨hbel.block b hb, rfl⟩, fun b hb => hn b (Nat.le_trans hbel.size hb), hbel.os, hbel.output, hbel.tape⟩, ?_, rfl⟩
          have := hmk w' G (linesOf fr to (bytesOf bs)) none 0 (by omega) ⟨fun _ => rfl, fun p hp => by cases hp⟩ (fun p hp => by cases hp)
          rw [h0] at this
          exact this
        · have hglt : g < w'.heap.size := heap_lt hgb
          refine ⟨_, fun k => if k = g then (linesOf fr to (bytesOf bs)).length * 3 else G k, rfl, ⟨hbel.size, fun b hb => ⟨hbel.block b hb, ?_⟩, fun b hb => ?_, hbel.os, hbel.output, hbel.tape⟩, ?_, rfl⟩
          · have : b ≠ g := by omega
            simp [this]
          · have : b ≠ g := by omega
            simp [this, hn b (Nat.le_trans hbel.size hb)]
          · refine hmk w' _ _ _ cap' hnc ⟨fun h => (by cases h), fun p hp => (by cases hp; exact hglt)⟩ (fun p hp _ => ?_)
            cases hp
            refine ⟨rfl, fun j x hj => ⟨?_, ?_⟩⟩
            · have := hown.cells (g := g) rfl j x hj
              rw [Addr.add_lit] at this
              exact this
            · have hj' := (List.getElem?_eq_some_iff.1 hj).1
              have := hown.1
              simp only [if_true]
              omega
    · cases hF
  · cases hF
theorem clone_ok : FunOk cfg 54 cloneF := by
  refine funOk_of fun args objs v objs' hF => ?_
  unfold cloneF at hF
  split at hF
  · rename_i tp bs
    split at hF
    · rename_i hb
      simp only [Bool.and_eq_true, decide_eq_true_eq] at hb
      obtain ⟨hby, hlen⟩ := hb
      cases hF
      refine ⟨rfl, rfl, fun fn rsh hfn hrsh => ?_⟩
      have h1 : cfg.fn 54 = some Tryd.f54 := by kernel_rfl
      have h2 : rshOf cfg 54 Tryd.f54 = some [⟨false, [.lst 5 false]⟩] := by kernel_rfl
      rw [h1] at hfn; cases hfn
      rw [h2] at hrsh; cases hrsh
      refine ⟨rfl, fun w G cargs hn hl hr => ?_⟩
      match cargs, hl with
      | [x], _ =>
        obtain ⟨a, cap, lo, rfl, hlo, hrr, hf, hs, hz, hcap, ha, hrow⟩ := lst_of (hr 0 _ x rfl rfl) rfl
        have hxb := byteV_all hby
        have hbl : (bytesOf bs).length = bs.length := by simp [bytesOf]
        have hlo' : lo = (bytesOf bs).map (fun b => Value.int .u8 b.toNat) := by
          apply List.ext_getElem?
          intro i
          by_cases hi : i < bs.length
          · have e1 : bs[i]? = (ofBytes (bytesOf bs))[i]? := by rw [hxb]
            simp only [ofBytes, List.getElem?_map] at e1
            rw [List.getElem?_eq_getElem (by omega : i < (bytesOf bs).length)] at e1
            have := int_of (hrr i _ lo[i] e1 (List.getElem?_eq_getElem (by omega))) rfl
            rw [List.getElem?_eq_getElem (by omega : i < lo.length), this, List.getElem?_map, List.getElem?_eq_getElem (by omega : i < (bytesOf bs).length)]
            rfl
          · rw [List.getElem?_eq_none (by omega), List.getElem?_eq_none (by simp; omega)]
        have hfl : flat lo = lo := by rw [hlo', flat_ints]
        have hsz : tySize cfg 5 = 1 := by kernel_rfl
        have hmk : ∀ (w' : World) (G' : Gh) (a' : Option Addr) (cap' : Nat), bs.length ≤ cap' → ((a' = none → cap' = 0) ∧ ∀ p, a' = some p → p.block < w'.heap.size) →
            (∀ p, a' = some p → bs ≠ [] → p.spot = none ∧ SRow w' G' p.block p.off lo) → Rep cfg w' G' [] (.lst 5 false bs) (.slice a' bs.length cap') := by
          intro w' G' a' cap' k1 k2 k3
          refine .lst 5 false bs a' cap' lo hlo (fun i v x hv hx => ?_) hf hs hz k1 k2 (fun p hp hne => ?_)
          · rw [← hxb] at hv
            rw [hlo'] at hx
            obtain ⟨p, q1, rfl⟩ := get_map hv
            obtain ⟨p', q2, rfl⟩ := get_map hx
            rw [q1] at q2; cases q2
            exact .int _ _
          · rw [hfl]; exact k3 p hp hne
        cases a with
        | none =>
          have hcap0 := ha.1 rfl
          have hb0 : bs = [] := List.eq_nil_of_length_eq_zero (by omega)
          refine (clone_nil bs.length cap w).mono ?_
          rintro e w' ⟨rfl, rfl⟩
          refine ⟨_, G, rfl, ⟨Nat.le_refl _, fun b hb => ⟨rfl, rfl⟩, hn, rfl, rfl, rfl⟩, ?_, rfl⟩
          have := hmk w' G none 0 (by rw [hb0]; simp) ⟨fun _ => rfl, fun p hp => by cases hp⟩ (fun p hp => by cases hp)
          have hz0 : bs.length = 0 := by rw [hb0]; rfl
          rw [hz0] at this
          exact this
        | some p =>
          have hcell : ∀ j u, lo[j]? = some u → w.cell? (p.add j) = some u := fun j u hj => by
            have hjl := (List.getElem?_eq_some_iff.1 hj).1
            have hbne : bs ≠ [] := fun e => by
              have h0 : lo.length = 0 := by rw [hlo, e]; rfl
              omega
            obtain ⟨g1, g2⟩ := hrow p rfl hbne
            obtain ⟨pb, po, ps⟩ := p
            simp only at g1
            subst g1
            rw [Addr.add_lit]
            exact (g2 j u (by rw [hfl]; exact hj)).1
          have hone : ∀ u ∈ lo, u.oneCell' = true := fun u hu => by
            rw [hlo'] at hu
            obtain ⟨c, _, rfl⟩ := List.mem_map.1 hu
            rfl
          refine (clone_c p bs.length cap lo w hlo (by unfold maxLen; omega) (by omega) hcell hone).mono ?_
          rintro e w' ⟨v, rfl, hown, hbel⟩
          rcases hown.2 with ⟨rfl, h0⟩ | ⟨g, cap', cur, rfl, hbg, hgb, hnc, hcm, hcs, htake⟩
          · refine ⟨_, G, rfl, ⟨hbel.size, fun b hb => ⟨hbel.block b hb, rfl⟩, fun b hb => hn b (Nat.le_trans hbel.size hb), hbel.os, hbel.output, hbel.tape⟩, ?_, rfl⟩
            have := hmk w' G none 0 (by omega) ⟨fun _ => rfl, fun p hp => by cases hp⟩ (fun p hp => by cases hp)
            rw [h0] at this
            exact this
          · have hglt : g < w'.heap.size := heap_lt hgb
            refine ⟨_, fun k => if k = g then bs.length * 1 else G k, rfl, ⟨hbel.size, fun b hb => ⟨hbel.block b hb, ?_⟩, fun b hb => ?_, hbel.os, hbel.output, hbel.tape⟩, ?_, rfl⟩
            · have : b ≠ g := by omega
              simp [this]
            · have : b ≠ g := by omega
              simp [this, hn b (Nat.le_trans hbel.size hb)]
            · refine hmk w' _ _ cap' hnc ⟨fun h => (by cases h), fun p hp => (by cases hp; exact hglt)⟩ (fun p hp _ => ?_)
              cases hp
              refine ⟨rfl, fun j x hj => ⟨?_, ?_⟩⟩
              · have := hown.cells (g := g) rfl j x hj
                rw [Addr.add_lit] at this
                exact this
              · have hj' := (List.getElem?_eq_some_iff.1 hj).1
                have := hown.1
                simp only [if_true]
                omega
    · cases hF
  · cases hF
theorem rep_rows {w w' : World} {G : Gh} {e : TypeId} (hsz : tySize cfg e = 3) (hfit : ∀ p q r : Int, fitsE cfg e (.agg [.int .i64 p, .int .i64 q, .int .i64 r]) = true) {v : Value} (xs : List (Nat × Nat × Nat)) (hn : ∀ b, w.heap.size ≤ b → G b = 0)
    (hown : w'.ownsRow w.heap.size e 3 v xs.length (cellsLn xs)) (hbel : Below w.heap.size w w') : ∃ u G', Ending.returned v = .returned u ∧ WExt w G w' G' ∧ Rep cfg w' G' [] (.lst e false (xs.map lnV)) u ∧ leaf3 (.lst e false (xs.map lnV)) u = [] := by
  have hmk : ∀ (w' : World) (G' : Gh) (a' : Option Addr) (cap' : Nat), xs.length ≤ cap' → ((a' = none → cap' = 0) ∧ ∀ p, a' = some p → p.block < w'.heap.size) →
      (∀ p, a' = some p → xs ≠ [] → p.spot = none ∧ SRow w' G' p.block p.off (cellsLn xs)) → Rep cfg w' G' [] (.lst e false (xs.map lnV)) (.slice a' xs.length cap') := by
    intro w' G' a' cap' k1 k2 k3
    have hfl : flat (xs.map encLn) = cellsLn xs := by
      clear k1 k2 k3 hown
      induction xs with
      | nil => rfl
      | cons x xs ih => simp only [flat, List.map_cons, List.flatMap_cons, cellsLn] at ih ⊢; rw [ih]; rfl
    have hlen' : xs.length = (xs.map lnV).length := by simp
    rw [hlen']
    refine .lst e false _ a' cap' (xs.map encLn) (by simp) (fun i v x hv hx => ?_) (fun v hv => ?_) (fun x hx => ?_) (by rw [hsz]; omega) (by simpa using k1) k2 (fun p hp hne => ?_)
    · obtain ⟨p, q1, rfl⟩ := get_map hv
      obtain ⟨p', q2, rfl⟩ := get_map hx
      rw [q1] at q2; cases q2
      refine .agg _ [.int .i64 p.1, .int .i64 p.2.1, .int .i64 p.2.2] rfl (fun x hx => ?_) (fun i v x hv hx => ?_)
      · simp at hx; rcases hx with rfl | rfl | rfl <;> rfl
      · match i, hv, hx with
        | 0, hv, hx => simp at hv hx; subst hv; subst hx; exact .int _ _
        | 1, hv, hx => simp at hv hx; subst hv; subst hx; exact .int _ _
        | 2, hv, hx => simp at hv hx; subst hv; subst hx; exact .int _ _
    · obtain ⟨p, _, rfl⟩ := List.mem_map.1 hv
      exact hfit _ _ _
    · obtain ⟨p, _, rfl⟩ := List.mem_map.1 hx
      rw [hsz]; rfl
    · rw [hfl]
      exact k3 p hp (fun e => hne (by rw [e]; rfl))
  rcases hown.2 with ⟨rfl, h0⟩ | ⟨g, cap', cur, rfl, hbg, hgb, hnc, hcm, hcs, htake⟩
  · refine ⟨_, G, rfl, ⟨hbel.size, fun b hb => ⟨hbel.block b hb, rfl⟩, fun b hb => hn b (Nat.le_trans hbel.size hb), hbel.os, hbel.output, hbel.tape⟩, ?_, rfl⟩
    have := hmk w' G none 0 (by omega) ⟨fun _ => rfl, fun p hp => by cases hp⟩ (fun p hp => by cases hp)
    rw [h0] at this
    exact this
  · have hglt : g < w'.heap.size := heap_lt hgb
    refine ⟨_, fun k => if k = g then xs.length * 3 else G k, rfl, ⟨hbel.size, fun b hb => ⟨hbel.block b hb, ?_⟩, fun b hb => ?_, hbel.os, hbel.output, hbel.tape⟩, ?_, rfl⟩
    · have : b ≠ g := by omega
      simp [this]
    · have : b ≠ g := by omega
      simp [this, hn b (Nat.le_trans hbel.size hb)]
    · refine hmk w' _ _ cap' hnc ⟨fun h => (by cases h), fun p hp => (by cases hp; exact hglt)⟩ (fun p hp _ => ?_)
      cases hp
      refine ⟨rfl, fun j x hj => ⟨?_, ?_⟩⟩
      · have := hown.cells (g := g) rfl j x hj
        rw [Addr.add_lit] at this
        exact this
      · have hj' := (List.getElem?_eq_some_iff.1 hj).1
        have := hown.1
        simp only [if_true]
        omega
theorem tySizeP : tySize cfg 28 = 9 := by kernel_rfl
theorem tySizeS : tySize cfg 24 = 2 := by kernel_rfl
theorem tySizeT : tySize cfg 50 = 3 := by kernel_rfl
theorem fitsT (p q r : Int) : fitsE cfg 50 (.agg [.int .i64 p, .int .i64 q, .int .i64 r]) = true := by kernel_rfl
theorem tof_ok : FunOk cfg 24 tofF := by
  refine funOk_of fun args objs v objs' hF => ?_
  unfold tofF at hF
  split at hF
  · rename_i pv
    obtain ⟨ts, h1, h2⟩ := Option.map_eq_some_iff.1 hF
    cases h2
    obtain ⟨p, rfl, hlen, rfl⟩ := tilesV_some h1
    refine ⟨rfl, rfl, fun fn rsh hfn hrsh => ?_⟩
    have h1 : cfg.fn 24 = some Tryd.f24 := by kernel_rfl
    have h2 : rshOf cfg 24 Tryd.f24 = some [⟨false, [.lst 50 false]⟩] := by kernel_rfl
    rw [h1] at hfn; cases hfn
    rw [h2] at hrsh; cases hrsh
    refine ⟨rfl, fun w G cargs hn hl hr => ?_⟩
    match cargs, hl with
    | [x], _ =>
      have hp := pis_of_rep tySizeP tySizeS p x (hr 0 _ x rfl rfl)
      refine (tof_c p x w hp hlen).mono ?_
      rintro e w' ⟨v, rfl, hown, hbel⟩
      exact rep_rows tySizeT fitsT (tilesP p) hn hown hbel
  · cases hF
theorem part_tips (p : Pt) : (partV p).tips = false := by cases p; rw [partV]; rfl
theorem says_of {f : FuncId} {F : Go.Ev.Fun} (hok : FunOk cfg f F) {p : Pt} {v : V} (hF : F [partV p] [] = some (v, [])) {fn : Func} {rsh : List RSh} (hfn : cfg.fn f = some fn) (hrsh : rshOf cfg f fn = some rsh)
    {w : World} {G : Gh} {x : Value} (hn : ∀ b, w.heap.size ≤ b → G b = 0) (hr : Rep cfg w G [] (partV p) x) {vv : Value} (hv : ∀ w' G' u, Rep cfg w' G' [] v u → u = vv) : Says w f x vv := by
  intro W hb
  have hr' : Rep cfg W G [] (partV p) x := hr.mono ⟨fun b o ho => by
    have hbl : b < w.heap.size := by
      rcases Nat.lt_or_ge b w.heap.size with h | h
      · exact h
      · rw [hn b h] at ho; omega
    exact cell?_of_heap (hb.block b hbl), fun b => Nat.le_refl _, hb.size⟩
  have hz := leaf_plain [partV p] [x] (fun v hv => by simp at hv; subst hv; exact part_tips p)
  have hinv : Inv cfg W G [] [partV p] [x] [] := ⟨Nat.le_refl _, fun i v y h1 h2 => by
      cases i with
      | zero => simp at h1 h2; subst h1; subst h2; exact hr'
      | succ i => simp at h1, rfl, fun i o b ho => by simp at ho, fun b => by rw [hz]; simp [leafO, cnt], fun l hl => by rw [hz] at hl; simp [leafO] at hl, fun b hb => (by cases hb), fun b h => hn b (Nat.le_trans hb.size h)⟩
  obtain ⟨_, _, hcalls⟩ := hok.2 fn rsh hfn hrsh [partV p] [] v [] hF W G [] [x] rfl hinv
  refine hcalls.mono ?_
  rintro e w' ⟨u, G', rfl, hs⟩
  have hu := hv _ _ u (hs.inv.rep 0 _ _ rfl rfl)
  subst hu
  exact ⟨rfl, hs.stp.os, hs.stp.tape, hs.stp.out, hs.stp.size, fun b hb => (hs.stp.keep b hb (by
    show ¬ (0 < _)
    rw [hz]; simp [leafO, cnt])).1⟩
theorem tcheck_ok (call : FuncId → Go.Ev.Fun) (hcall : ∀ g, FunOk cfg g (call g)) : FunOk cfg 23 (tcheckF call) := by
  refine funOk_of fun args objs v objs' hF => ?_
  unfold tcheckF at hF
  split at hF
  · rename_i pv n
    split at hF
    · rename_i ts c d ft a b g1 g2 g3 g4 g5
      cases hF
      obtain ⟨p, rfl, hlen, rfl⟩ := tilesV_some g1
      refine ⟨rfl, rfl, fun fn rsh hfn hrsh => ?_⟩
      have h1 : cfg.fn 23 = some Tryd.f23 := by kernel_rfl
      have h2 : rshOf cfg 23 Tryd.f23 = some [⟨false, [.int .i64]⟩] := by kernel_rfl
      rw [h1] at hfn; cases hfn
      rw [h2] at hrsh; cases hrsh
      refine ⟨rfl, fun w G cargs hn hl hr => ?_⟩
      match cargs, hl with
      | [x, y], _ =>
        have hx := hr 0 _ x rfl rfl
        have hy := int_of (hr 1 _ y rfl rfl) rfl
        subst hy
        have hp := pis_of_rep tySizeP tySizeS p x hx
        have s1 : Says w 17 x (.int .i64 c) := says_of (hcall _) g2 (fn := Tryd.f17) (by kernel_rfl) (rsh := [⟨false, [.int .i64]⟩]) (by kernel_rfl) hn hx (fun w' G' u h => int_of h rfl)
        have s2 : Says w 18 x (.int .i64 d) := says_of (hcall _) g3 (fn := Tryd.f18) (by kernel_rfl) (rsh := [⟨false, [.int .i64]⟩]) (by kernel_rfl) hn hx (fun w' G' u h => int_of h rfl)
        have s3 : Says w 33 x (.bool ft) := says_of (hcall _) g4 (fn := Tryd.f33) (by kernel_rfl) (rsh := [⟨false, [.bool]⟩]) (by kernel_rfl) hn hx (fun w' G' u h => bool_of h rfl)
        have s4 : Says w 25 x (.agg #[.int .i64 a, .int .i64 b]) := says_of (hcall _) g5 (fn := Tryd.f25) (by kernel_rfl) (rsh := [⟨true, [.int .i64, .int .i64]⟩]) (by kernel_rfl) hn hx (fun w' G' u h => by
          obtain ⟨cs, rfl, hl, _, hcc⟩ := agg_of h rfl
          match cs, hl with
          | [p, q], _ =>
            have e1 := int_of (hcc 0 _ p rfl rfl) rfl
            have e2 := int_of (hcc 1 _ q rfl rfl) rfl
            subst e1; subst e2; rfl)
        refine (callsIn_wide.1 (tcheck_in p x n w hp hlen c d a b ft s1 s2 s3 s4)).mono ?_
        rintro e w' ⟨rfl, hbel⟩
        exact ⟨_, G, rfl, ⟨hbel.size, fun b hb => ⟨hbel.block b hb, rfl⟩, fun b hb => hn b (Nat.le_trans hbel.size hb), hbel.os, hbel.output, hbel.tape⟩, .int _ _, rfl⟩
    · cases hF
  · cases hF
theorem hand0_ok : ∀ f h, hand0 f = some h → FunOk cfg f h := by
  intro f h hf
  unfold hand0 at hf
  split at hf
  · rename_i e; subst e; cases hf; exact fold_ok
  split at hf
  · rename_i e; subst e; cases hf; exact split_ok
  split at hf
  · rename_i e; subst e; cases hf; exact idx_ok
  split at hf
  · rename_i e; subst e; cases hf; exact of_ok
  split at hf
  · rename_i e; subst e; cases hf; exact ixb_ok
  split at hf
  · rename_i e; subst e; cases hf; exact clone_ok
  split at hf
  · rename_i e; subst e; cases hf; exact tof_ok
  split at hf
  · rename_i e; subst e; cases hf
    refine check_ok rfl (fun t ht => by simpa [cfg, cfgOf, bldc] using ht) rfl (fun fn rsh hfn hrsh => ?_)
    have h1 : cfg.fn 108 = some Tryd.f108 := by kernel_rfl
    have h2 : rshOf cfg 108 Tryd.f108 = some [] := by kernel_rfl
    rw [h1] at hfn; cases hfn
    rw [h2] at hrsh; cases hrsh
    rfl
  split at hf
  · rename_i e; subst e; cases hf
    refine text_ok cfg_ok rfl rfl (by kernel_rfl) (by kernel_rfl) (fun fn rsh s hfn hrsh => ?_)
    have h1 : cfg.fn 92 = some Tryd.f92 := by kernel_rfl
    have h2 : rshOf cfg 92 Tryd.f92 = some [⟨false, [.str]⟩] := by kernel_rfl
    rw [h1] at hfn; cases hfn
    rw [h2] at hrsh; cases hrsh
    rfl
  cases hf
theorem hand_ok : ∀ f h, cfg.hand f = some h → ∀ call, (∀ g, FunOk cfg g (call g)) → FunOk cfg f (h call) := by
  intro f h hf call hcall
  have hf : hand f = some h := hf
  unfold hand at hf
  split at hf
  · rename_i e; subst e; cases hf; exact tcheck_ok call hcall
  obtain ⟨h0, h1, rfl⟩ := Option.map_eq_some_iff.1 hf
  exact hand0_ok f h0 h1
end Go.Proofs.YtemgbdncidgoiaaDoor
end
section
namespace Go.Proofs.YtemgbdncidgoiaaDoor
open Go.Ev Go
abbrev Bs := List UInt8
def Ret (f : FuncId) (args : List V) (objs : List Ob) (r : V × List Ob) : Prop := ∃ K, ∀ k, K ≤ k → callN cfg k f args objs = some r
def Evt {α : Type} (g : Nat → Nat → Option α) (r : α) : Prop := ∃ K, ∀ k n, K ≤ k → K ≤ n → g k n = some r
theorem ret_mk {f : FuncId} {args : List V} {objs : List Ob} {r : V × List Ob} {g : Nat → Nat → Option (V × List Ob)} (hc : ∀ k, callN cfg (k + 1) f args objs = g k k) (h : Evt g r) : Ret f args objs r := by
  obtain ⟨K, h⟩ := h
  refine ⟨K + 1, fun k hk => ?_⟩
  obtain ⟨j, rfl⟩ : ∃ j, k = j + 1 := ⟨k - 1, by omega⟩
  rw [hc]; exact h j j (by omega) (by omega)
theorem evt_step {α : Type} {g g' : Nat → Nat → Option α} {r : α} (hg : ∀ k n, g k (n + 1) = g' k n) (h : Evt g' r) : Evt g r := by
  obtain ⟨K, h⟩ := h
  refine ⟨K + 1, fun k n hk hn => ?_⟩
  obtain ⟨j, rfl⟩ : ∃ j, n = j + 1 := ⟨n - 1, by omega⟩
  rw [hg]; exact h k j (by omega) (by omega)
theorem evt_some {α : Type} (r : α) : Evt (fun _ _ => some r) r := ⟨0, fun _ _ _ _ => rfl⟩
theorem evt_bind {α : Type} {f : FuncId} {args : List V} {objs : List Ob} {p : V × List Ob} {F : Nat → Nat → V × List Ob → Option α} {r : α} (h : Ret f args objs p) (h2 : Evt (fun k n => F k n p) r) :
    Evt (fun k n => Option.bind (callN cfg k f args objs) (F k n)) r := by
  obtain ⟨K, h⟩ := h
  obtain ⟨K2, h2⟩ := h2
  refine ⟨K + K2, fun k n hk hn => ?_⟩
  show Option.bind (callN cfg k f args objs) (F k n) = some r
  rw [h k (by omega)]
  exact h2 k n (by omega) (by omega)
theorem ret_hand {f : FuncId} {args : List V} {objs : List Ob} {r : V × List Ob} {h : Go.Ev.Fun} (hh : cfg.hand f = some fun _ => h) (e : h args objs = some r) : Ret f args objs r := by
  refine ⟨1, fun k hk => ?_⟩
  obtain ⟨j, rfl⟩ : ∃ j, k = j + 1 := ⟨k - 1, by omega⟩
  simp only [callN, hh]; exact e
noncomputable def FIN (f : FuncId) (fn : Func) (objs : List Ob) : St → Option (V × List Ob) := finV cfg fn (finish cfg fn f (List.map OSh.of objs))
noncomputable def RM (f : FuncId) (fn : Func) (objs : List Ob) (call : FuncId → Go.Ev.Fun) (icall : ICall (V × List Ob)) (again : List It → St → Option (V × List Ob)) (its : List It) (st : St) : Option (V × List Ob) :=
  runM cfg call icall (slotsOf fn.results.toList) (List.length objs) again (FIN f fn objs) depth its st
noncomputable def RN (f : FuncId) (fn : Func) (objs : List Ob) (call : FuncId → Go.Ev.Fun) (icall : ICall (V × List Ob)) (n : Nat) (its : List It) (st : St) : Option (V × List Ob) :=
  Go.Ev.runN cfg call icall (slotsOf fn.results.toList) (List.length objs) (FIN f fn objs) n its st
noncomputable def GO (f : FuncId) (fn : Func) (args : List V) (objs : List Ob) (call : FuncId → Go.Ev.Fun) (icall : ICall (V × List Ob)) (again : List It → St → Option (V × List Ob)) : Option (V × List Ob) :=
  envK args fn.ntmps fun env => RM f fn objs call icall again [.code (codeOf fn)] ⟨env, objs⟩
theorem chk_t {R : Type} (x : Option R) : chk true x = x := rfl
theorem chk_p {R : Type} {p : Prop} [Decidable p] (h : p) (x : Option R) : chk (decide p) x = x := by simp [chk, h]
theorem chk_b {R : Type} {b : Bool} (h : b = true) (x : Option R) : chk b x = x := by subst h; rfl
theorem bind_s {α β : Type} (a : α) (f : α → Option β) : Option.bind (some a) f = f a := rfl
theorem wrap64 {n : Int} (h1 : -9223372036854775808 ≤ n) (h2 : n < 9223372036854775808) : IntKind.wrap .i64 n = n := by
  rw [IntKind.wrap_i64]; omega
theorem wrap8 {n : Int} (h1 : 0 ≤ n) (h2 : n < 256) : IntKind.wrap .u8 n = n := by
  rw [IntKind.wrap_u8']; omega
theorem cat_ok {x y : Bs} (h : x.length + y.length ≤ 9223372036854775807) : catOk x y = true := by simp [catOk, h]
theorem app_ok {x y : List V} {n : Nat} (h : (x.length + y.length) * n ≤ 70368744177664) : appOk x y n = true := by simp [appOk, h]
theorem ofBytes_snoc (l : Bs) (c : UInt8) : ofBytes l ++ [.int .u8 (c.toNat : Int)] = ofBytes (l ++ [c]) := by simp [ofBytes]
theorem bytesOf_ofBytes (l : Bs) : bytesOf (ofBytes l) = l := by
  simp [bytesOf, ofBytes, V.getI, Function.comp_def]
theorem ofBytes_length (l : Bs) : (ofBytes l).length = l.length := by simp [ofBytes]
theorem getD_at {s : Bs} {i : Nat} (h : i < s.length) : s.getD i 0 = s[i] := by simp [List.getD, h]
theorem drop_at {s : Bs} {i : Nat} (h : i < s.length) : s.drop i = s[i] :: s.drop (i + 1) := List.drop_eq_getElem_cons h
end Go.Proofs.YtemgbdncidgoiaaDoor
end
section
namespace Go.Proofs.YtemgbdncidgoiaaDoor
open Go.Ev Go
open List (headD tail getD length drop take)
open V (getI getL getT getS getB)
set_option maxRecDepth 100000
variable (call : FuncId → Fun) (icall : ICall (V × List Ob)) (again : List It → St → Option (V × List Ob))
def T41_0 (call : FuncId → Fun) (ag0 : List UInt8 → List V → Int → Int → Option (V × List Ob)) (s0 : List UInt8) (l1 : List V) (i2 : Int) (i3 : Int) : Option (V × List Ob) :=
 if (decide (i3 < i2)) = true then
 chk (decide (0 ≤ i3)) (chk (decide (i3 < ((length l1 : Nat) : Int))) (Option.bind (call 62 [(V.str (getS (headD (V.cells (getD l1 (Int.toNat i3) V.bot)) V.bot))), (V.str s0)] []) fun z0 =>
 if (getB z0.1) = true then
 some ((V.tup [(V.str (getS (headD (tail (V.cells (getD l1 (Int.toNat i3) V.bot))) V.bot))), (V.bool true)]), [])
 else
 (ag0 (s0) (l1) (i2) ((IntKind.wrap .i64 (i3 + (1 : Int)))))))
 else
 some ((V.tup [(V.str []), (V.bool false)]), [])
def T41 (call : FuncId → Fun) (ag0 : List UInt8 → List V → Int → Int → Option (V × List Ob)) (a0 : List UInt8) (a1 : List UInt8) (a2 : List V) (a3 : List UInt8) : Option (V × List Ob) :=
 (ag0 (a3) (a2) (((length a2 : Nat) : Int)) ((0 : Int)))
def A41 (a0 : List UInt8) (a1 : List UInt8) (a2 : List V) (a3 : List UInt8) : List V := [V.agg [V.str a0, V.str a1, V.lst 116 false a2], V.str a3]
def K41_0 (s0 : List UInt8) (l1 : List V) (i2 : Int) (i3 : Int) : St := ⟨[V.bot, (V.str s0), V.bot, V.bot, V.bot, V.bot, V.bot, V.bot, V.bot, (V.lst 116 false l1), (V.int IntKind.i64 i2), (V.int IntKind.i64 i3)] ++ List.replicate 10 V.bot, []⟩
theorem S41_0 (s0 : List UInt8) (l1 : List V) (i2 : Int) (i3 : Int) :
 RM 41 Tryd.f41 [] call icall again (tdOf Tryd.f41 0) (K41_0 s0 l1 i2 i3) = T41_0 call (fun s0 l1 i2 i3 => again (tdOf Tryd.f41 0) (K41_0 s0 l1 i2 i3)) s0 l1 i2 i3 := by kernel_rfl
theorem E41 (a0 : List UInt8) (a1 : List UInt8) (a2 : List V) (a3 : List UInt8) : GO 41 Tryd.f41 (A41 a0 a1 a2 a3) [] call icall again = T41 call (fun s0 l1 i2 i3 => again (tdOf Tryd.f41 0) (K41_0 s0 l1 i2 i3)) a0 a1 a2 a3 := by kernel_rfl
def L41 (call : FuncId → Fun) : Nat → (List UInt8 → List V → Int → Int → Option (V × List Ob))
 | 0 => fun _ _ _ _ => none
 | n + 1 => T41_0 call (L41 call n)
theorem R41 (call : FuncId → Fun) (icall : ICall (V × List Ob)) : ∀ n, (∀ (s0 : List UInt8) (l1 : List V) (i2 : Int) (i3 : Int), RN 41 Tryd.f41 [] call icall n (tdOf Tryd.f41 0) (K41_0 s0 l1 i2 i3) = (L41 call n) s0 l1 i2 i3)
  | 0 => fun s0 l1 i2 i3 => rfl
  | n + 1 => by
    have ih := R41 call icall n
    exact fun s0 l1 i2 i3 => (S41_0 call icall (RN 41 Tryd.f41 [] call icall n) s0 l1 i2 i3).trans (by rw [show (fun s0 l1 i2 i3 => RN 41 Tryd.f41 [] call icall n (tdOf Tryd.f41 0) (K41_0 s0 l1 i2 i3)) = (L41 call n) from (funext fun s0 => funext fun l1 => funext fun i2 => funext fun i3 => ih s0 l1 i2 i3)]; rfl)
theorem C41 (k : Nat) (a0 : List UInt8) (a1 : List UInt8) (a2 : List V) (a3 : List UInt8) : callN cfg (k + 1) 41 (A41 a0 a1 a2 a3) [] = T41 (callN cfg k) (L41 (callN cfg k) k) a0 a1 a2 a3 := by
 have ih := R41 (callN cfg k) (icallN cfg (callN cfg k) 20) k
 refine (show callN cfg (k + 1) 41 (A41 a0 a1 a2 a3) [] = GO 41 Tryd.f41 (A41 a0 a1 a2 a3) [] (callN cfg k) (icallN cfg (callN cfg k) 20) (RN 41 Tryd.f41 [] (callN cfg k) (icallN cfg (callN cfg k) 20) k) by kernel_rfl).trans ((E41 _ _ _ a0 a1 a2 a3).trans ?_)
 rw [show (fun s0 l1 i2 i3 => RN 41 Tryd.f41 [] (callN cfg k) (icallN cfg (callN cfg k) 20) k (tdOf Tryd.f41 0) (K41_0 s0 l1 i2 i3)) = (L41 (callN cfg k) k) from (funext fun s0 => funext fun l1 => funext fun i2 => funext fun i3 => ih s0 l1 i2 i3)]
theorem M41 (a0 : List UInt8) (a1 : List UInt8) (a2 : List V) (a3 : List UInt8) {r : V × List Ob} (h : Evt (fun k n => T41 (callN cfg k) (L41 (callN cfg k) n) a0 a1 a2 a3) r) : Ret 41 [V.agg [V.str a0, V.str a1, V.lst 116 false a2], V.str a3] [] r := ret_mk (g := fun k n => T41 (callN cfg k) (L41 (callN cfg k) n) a0 a1 a2 a3) (fun k => C41 k a0 a1 a2 a3) h
theorem N41_0 (s0 : List UInt8) (l1 : List V) (i2 : Int) (i3 : Int) {r : V × List Ob} (h : Evt (fun k n => T41_0 (callN cfg k) (L41 (callN cfg k) n) s0 l1 i2 i3) r) : Evt (fun k n => (L41 (callN cfg k) n) s0 l1 i2 i3) r := evt_step (fun k n => rfl) h
def T60_0 (call : FuncId → Fun) (ag0 : List V → List V → Int → Int → List UInt8 → List UInt8 → List V → List UInt8 → List UInt8 → List UInt8 → List V → List (Sc × Sc) → Option (V × List Ob)) (l0 : List V) (l1 : List V) (i2 : Int) (i3 : Int) (s4 : List UInt8) (s5 : List UInt8) (l6 : List V) (s7 : List UInt8) (s8 : List UInt8) (s9 : List UInt8) (l10 : List V) (m11 : List (Sc × Sc)) : Option (V × List Ob) :=
 if (decide (i3 < i2)) = true then
 chk (decide (0 ≤ i3)) (chk (decide (i3 < ((length l1 : Nat) : Int))) (Option.bind (call 84 [(V.str (getS (headD (V.cells (getD l1 (Int.toNat i3) V.bot)) V.bot))), (V.str [42])] []) fun z0 =>
 Option.bind (if (sEq (getS (headD (getT z0.1) V.bot)) []) = false then
 some (Sc.getB (mget (Sc.str (getS (headD (getT z0.1) V.bot))) m11))
 else
 some true) fun y1 =>
 if y1 = true then
 (ag0 (l0) (l1) (i2) ((IntKind.wrap .i64 (i3 + (1 : Int)))) (s4) (s5) (l6) (s7) (s8) (s9) (l10) (m11))
 else
 Option.bind (call 85 [(V.lst 116 false l0), (V.str (getS (headD (getT z0.1) V.bot)))] []) fun z2 =>
 if (getB (headD (tail (getT z2.1)) V.bot)) = true then
 chk (appOk l10 [(V.agg [(V.str (getS (headD (getT z0.1) V.bot))), (V.str (getS (headD (getT z2.1) V.bot)))])] 33) ((ag0 (l0) (l1) (i2) ((IntKind.wrap .i64 (i3 + (1 : Int)))) (s4) (s5) (l6) (s7) (s8) (s9) ((l10 ++ [(V.agg [(V.str (getS (headD (getT z0.1) V.bot))), (V.str (getS (headD (getT z2.1) V.bot)))])])) ((mput (Sc.str (getS (headD (getT z0.1) V.bot))) (Sc.bool true) m11))))
 else
 (ag0 (l0) (l1) (i2) ((IntKind.wrap .i64 (i3 + (1 : Int)))) (s4) (s5) (l6) (s7) (s8) (s9) (l10) ((mput (Sc.str (getS (headD (getT z0.1) V.bot))) (Sc.bool true) m11)))))
 else
 some ((V.tup [(V.agg [(V.str s8), (V.str s9), (V.lst 116 false l10)]), (V.bool true)]), [])
def T60 (call : FuncId → Fun) (ag0 : List V → List V → Int → Int → List UInt8 → List UInt8 → List V → List UInt8 → List UInt8 → List UInt8 → List V → List (Sc × Sc) → Option (V × List Ob)) (a0 : List UInt8) (a1 : Bool) : Option (V × List Ob) :=
 Option.bind (call 80 [(V.agg [(V.ref 0 0)])] [(Ob.cells [(V.str a0)])]) fun z0 =>
 Option.bind (call 81 [(V.agg [(V.ref 0 0)])] [(Ob.cells [(V.str (getS (headD (Ob.getC (headD z0.2 Ob.dead)) V.bot)))])]) fun z1 =>
 Option.bind (call 65 [(V.str (getS z1.1))] []) fun z2 =>
 if (sEq (getS z2.1) []) = true then
 some ((V.tup [(V.agg [(V.str []), (V.str []), (V.lst 116 false [])]), (V.bool false)]), [])
 else
 if a1 = true then
 Option.bind (call 82 [(V.agg [(V.ref 0 0)]), (V.int .u8 47)] [(Ob.cells [(V.str (getS (headD (Ob.getC (headD z1.2 Ob.dead)) V.bot)))])]) fun z3 =>
 if (!(getB z3.1)) = true then
 some ((V.tup [(V.agg [(V.str []), (V.str []), (V.lst 116 false [])]), (V.bool false)]), [])
 else
 Option.bind (call 81 [(V.agg [(V.ref 0 0)])] [(Ob.cells [(V.str (getS (headD (Ob.getC (headD z3.2 Ob.dead)) V.bot)))])]) fun z4 =>
 Option.bind (call 65 [(V.str (getS z4.1))] []) fun z5 =>
 if (sEq (getS z5.1) []) = true then
 some ((V.tup [(V.agg [(V.str []), (V.str []), (V.lst 116 false [])]), (V.bool false)]), [])
 else
 Option.bind (call 83 [(V.agg [(V.ref 0 0)])] [(Ob.cells [(V.str (getS (headD (Ob.getC (headD z4.2 Ob.dead)) V.bot)))])]) fun z6 =>
 (ag0 ((getL z6.1)) ((getL z6.1)) (((length (getL z6.1) : Nat) : Int)) ((0 : Int)) ([]) ([]) ([]) ((getS (headD (Ob.getC (headD z6.2 Ob.dead)) V.bot))) ((getS z2.1)) ((getS z5.1)) ([]) ([]))
 else
 Option.bind (call 83 [(V.agg [(V.ref 0 0)])] [(Ob.cells [(V.str (getS (headD (Ob.getC (headD z1.2 Ob.dead)) V.bot)))])]) fun z3 =>
 (ag0 ((getL z3.1)) ((getL z3.1)) (((length (getL z3.1) : Nat) : Int)) ((0 : Int)) ([]) ([]) ([]) ((getS (headD (Ob.getC (headD z3.2 Ob.dead)) V.bot))) ((getS z2.1)) ([]) ([]) ([]))
def A60 (a0 : List UInt8) (a1 : Bool) : List V := [V.str a0, V.bool a1]
def K60_0 (l0 : List V) (l1 : List V) (i2 : Int) (i3 : Int) (s4 : List UInt8) (s5 : List UInt8) (l6 : List V) (s7 : List UInt8) (s8 : List UInt8) (s9 : List UInt8) (l10 : List V) (m11 : List (Sc × Sc)) : St := ⟨[V.bot, V.bot, V.bot, V.bot, (V.ref 0 0), V.bot, V.bot, (V.ref 3 0), (V.lst 116 false l0), (V.mref 4), V.bot, V.bot, V.bot, V.bot, V.bot, V.bot, V.bot, V.bot, V.bot, V.bot, V.bot, V.bot, V.bot, V.bot, V.bot, V.bot, V.bot, V.bot, V.bot, V.bot, V.bot, V.bot, V.bot, V.bot, V.bot, V.bot, V.bot, V.bot, V.bot, V.bot, V.bot, V.bot, V.bot, V.bot, V.bot, V.bot, V.bot, (V.lst 116 false l1), (V.int IntKind.i64 i2), (V.int IntKind.i64 i3)] ++ List.replicate 36 V.bot, [(Ob.cells [(V.str s4), (V.str s5), (V.lst 116 true l6)]), (Ob.cells [(V.str s7)]), (Ob.cells [(V.ref 1 0)]), (Ob.cells [(V.str s8), (V.str s9), (V.lst 116 true l10)]), (Ob.mp SK.str SK.bool m11)]⟩
theorem S60_0 (l0 : List V) (l1 : List V) (i2 : Int) (i3 : Int) (s4 : List UInt8) (s5 : List UInt8) (l6 : List V) (s7 : List UInt8) (s8 : List UInt8) (s9 : List UInt8) (l10 : List V) (m11 : List (Sc × Sc)) :
 RM 60 Tryd.f60 [] call icall again (tdOf Tryd.f60 0) (K60_0 l0 l1 i2 i3 s4 s5 l6 s7 s8 s9 l10 m11) = T60_0 call (fun l0 l1 i2 i3 s4 s5 l6 s7 s8 s9 l10 m11 => again (tdOf Tryd.f60 0) (K60_0 l0 l1 i2 i3 s4 s5 l6 s7 s8 s9 l10 m11)) l0 l1 i2 i3 s4 s5 l6 s7 s8 s9 l10 m11 := by kernel_rfl
theorem E60 (a0 : List UInt8) (a1 : Bool) : GO 60 Tryd.f60 (A60 a0 a1) [] call icall again = T60 call (fun l0 l1 i2 i3 s4 s5 l6 s7 s8 s9 l10 m11 => again (tdOf Tryd.f60 0) (K60_0 l0 l1 i2 i3 s4 s5 l6 s7 s8 s9 l10 m11)) a0 a1 := by kernel_rfl
def L60 (call : FuncId → Fun) : Nat → (List V → List V → Int → Int → List UInt8 → List UInt8 → List V → List UInt8 → List UInt8 → List UInt8 → List V → List (Sc × Sc) → Option (V × List Ob))
 | 0 => fun _ _ _ _ _ _ _ _ _ _ _ _ => none
 | n + 1 => T60_0 call (L60 call n)
theorem R60 (call : FuncId → Fun) (icall : ICall (V × List Ob)) : ∀ n, (∀ (l0 : List V) (l1 : List V) (i2 : Int) (i3 : Int) (s4 : List UInt8) (s5 : List UInt8) (l6 : List V) (s7 : List UInt8) (s8 : List UInt8) (s9 : List UInt8) (l10 : List V) (m11 : List (Sc × Sc)), RN 60 Tryd.f60 [] call icall n (tdOf Tryd.f60 0) (K60_0 l0 l1 i2 i3 s4 s5 l6 s7 s8 s9 l10 m11) = (L60 call n) l0 l1 i2 i3 s4 s5 l6 s7 s8 s9 l10 m11)
  | 0 => fun l0 l1 i2 i3 s4 s5 l6 s7 s8 s9 l10 m11 => rfl
  | n + 1 => by
    have ih := R60 call icall n
    exact fun l0 l1 i2 i3 s4 s5 l6 s7 s8 s9 l10 m11 => (S60_0 call icall (RN 60 Tryd.f60 [] call icall n) l0 l1 i2 i3 s4 s5 l6 s7 s8 s9 l10 m11).trans (by rw [show (fun l0 l1 i2 i3 s4 s5 l6 s7 s8 s9 l10 m11 => RN 60 Tryd.f60 [] call icall n (tdOf Tryd.f60 0) (K60_0 l0 l1 i2 i3 s4 s5 l6 s7 s8 s9 l10 m11)) = (L60 call n) from (funext fun l0 => funext fun l1 => funext fun i2 => funext fun i3 => funext fun s4 => funext fun s5 => funext fun l6 => funext fun s7 => funext fun s8 => funext fun s9 => funext fun l10 => funext fun m11 => ih l0 l1 i2 i3 s4 s5 l6 s7 s8 s9 l10 m11)]; rfl)
theorem C60 (k : Nat) (a0 : List UInt8) (a1 : Bool) : callN cfg (k + 1) 60 (A60 a0 a1) [] = T60 (callN cfg k) (L60 (callN cfg k) k) a0 a1 := by
 have ih := R60 (callN cfg k) (icallN cfg (callN cfg k) 20) k
 refine (show callN cfg (k + 1) 60 (A60 a0 a1) [] = GO 60 Tryd.f60 (A60 a0 a1) [] (callN cfg k) (icallN cfg (callN cfg k) 20) (RN 60 Tryd.f60 [] (callN cfg k) (icallN cfg (callN cfg k) 20) k) by kernel_rfl).trans ((E60 _ _ _ a0 a1).trans ?_)
 rw [show (fun l0 l1 i2 i3 s4 s5 l6 s7 s8 s9 l10 m11 => RN 60 Tryd.f60 [] (callN cfg k) (icallN cfg (callN cfg k) 20) k (tdOf Tryd.f60 0) (K60_0 l0 l1 i2 i3 s4 s5 l6 s7 s8 s9 l10 m11)) = (L60 (callN cfg k) k) from (funext fun l0 => funext fun l1 => funext fun i2 => funext fun i3 => funext fun s4 => funext fun s5 => funext fun l6 => funext fun s7 => funext fun s8 => funext fun s9 => funext fun l10 => funext fun m11 => ih l0 l1 i2 i3 s4 s5 l6 s7 s8 s9 l10 m11)]
theorem M60 (a0 : List UInt8) (a1 : Bool) {r : V × List Ob} (h : Evt (fun k n => T60 (callN cfg k) (L60 (callN cfg k) n) a0 a1) r) : Ret 60 [V.str a0, V.bool a1] [] r := ret_mk (g := fun k n => T60 (callN cfg k) (L60 (callN cfg k) n) a0 a1) (fun k => C60 k a0 a1) h
theorem N60_0 (l0 : List V) (l1 : List V) (i2 : Int) (i3 : Int) (s4 : List UInt8) (s5 : List UInt8) (l6 : List V) (s7 : List UInt8) (s8 : List UInt8) (s9 : List UInt8) (l10 : List V) (m11 : List (Sc × Sc)) {r : V × List Ob} (h : Evt (fun k n => T60_0 (callN cfg k) (L60 (callN cfg k) n) l0 l1 i2 i3 s4 s5 l6 s7 s8 s9 l10 m11) r) : Evt (fun k n => (L60 (callN cfg k) n) l0 l1 i2 i3 s4 s5 l6 s7 s8 s9 l10 m11) r := evt_step (fun k n => rfl) h
def T62 (call : FuncId → Fun) (a0 : List UInt8) (a1 : List UInt8) : Option (V × List Ob) :=
 Option.bind (call 65 [(V.str a0)] []) fun z0 =>
 Option.bind (call 65 [(V.str a1)] []) fun z1 =>
 some ((V.bool (sEq (getS z0.1) (getS z1.1))), [])
def A62 (a0 : List UInt8) (a1 : List UInt8) : List V := [V.str a0, V.str a1]
theorem E62 (a0 : List UInt8) (a1 : List UInt8) : GO 62 Tryd.f62 (A62 a0 a1) [] call icall again = T62 call a0 a1 := by kernel_rfl
theorem C62 (k : Nat) (a0 : List UInt8) (a1 : List UInt8) : callN cfg (k + 1) 62 (A62 a0 a1) [] = T62 (callN cfg k) a0 a1 :=
 (show callN cfg (k + 1) 62 (A62 a0 a1) [] = GO 62 Tryd.f62 (A62 a0 a1) [] (callN cfg k) (icallN cfg (callN cfg k) 20) (RN 62 Tryd.f62 [] (callN cfg k) (icallN cfg (callN cfg k) 20) k) by kernel_rfl).trans (E62 _ _ _ a0 a1)
theorem M62 (a0 : List UInt8) (a1 : List UInt8) {r : V × List Ob} (h : Evt (fun k n => T62 (callN cfg k) a0 a1) r) : Ret 62 [V.str a0, V.str a1] [] r := ret_mk (g := fun k n => T62 (callN cfg k) a0 a1) (fun k => C62 k a0 a1) h
def T80_0 (call : FuncId → Fun) (ag0 : List UInt8 → Option (V × List Ob)) (s0 : List UInt8) : Option (V × List Ob) :=
 if (decide (((length s0 : Nat) : Int) > (0 : Int))) = true then
 Option.bind (call 99 [(V.ref 0 0), (V.int .i64 0)] [(Ob.cells [(V.str s0)])]) fun z0 =>
 Option.bind (call 78 [(V.int .u8 (getI z0.1))] []) fun z1 =>
 if (getB z1.1) = true then
 chk (decide (0 ≤ (1 : Int))) (chk (decide ((1 : Int) ≤ ((length s0 : Nat) : Int))) ((ag0 ((drop (Int.toNat (1 : Int)) s0)))))
 else
 if ((getI z0.1) == (40 : Int)) = true then
 Option.bind (call 100 [(V.agg [(V.ref 0 0)])] [(Ob.cells [(V.str s0)])]) fun z2 =>
 chk (decide (0 ≤ (getI z2.1))) (chk (decide ((getI z2.1) ≤ ((length s0 : Nat) : Int))) ((ag0 ((drop (Int.toNat (getI z2.1)) s0)))))
 else
 some ((V.tup []), [(Ob.cells [(V.str s0)])])
 else
 some ((V.tup []), [(Ob.cells [(V.str s0)])])
def T80 (call : FuncId → Fun) (ag0 : List UInt8 → Option (V × List Ob)) (a0 : List UInt8) : Option (V × List Ob) :=
 (ag0 (a0))
def O80 (a0 : List UInt8) : List Ob := [Ob.cells [V.str a0]]
def A80 : List V := [V.agg [V.ref 0 0]]
def K80_0 (s0 : List UInt8) : St := ⟨[V.bot, (V.ref 1 0)] ++ List.replicate 39 V.bot, [(Ob.cells [(V.str s0)]), (Ob.cells [(V.ref 0 0)])]⟩
theorem S80_0 (a0 : List UInt8) (s0 : List UInt8) :
 RM 80 Tryd.f80 (O80 a0) call icall again (tdOf Tryd.f80 0) (K80_0 s0) = T80_0 call (fun s0 => again (tdOf Tryd.f80 0) (K80_0 s0)) s0 := by kernel_rfl
theorem E80 (a0 : List UInt8) : GO 80 Tryd.f80 A80 (O80 a0) call icall again = T80 call (fun s0 => again (tdOf Tryd.f80 0) (K80_0 s0)) a0 := by kernel_rfl
def L80 (call : FuncId → Fun) : Nat → (List UInt8 → Option (V × List Ob))
 | 0 => fun _ => none
 | n + 1 => T80_0 call (L80 call n)
theorem R80 (call : FuncId → Fun) (icall : ICall (V × List Ob)) (a0 : List UInt8) : ∀ n, (∀ (s0 : List UInt8), RN 80 Tryd.f80 (O80 a0) call icall n (tdOf Tryd.f80 0) (K80_0 s0) = (L80 call n) s0)
  | 0 => fun s0 => rfl
  | n + 1 => by
    have ih := R80 call icall a0 n
    exact fun s0 => (S80_0 call icall (RN 80 Tryd.f80 (O80 a0) call icall n) a0 s0).trans (by rw [show (fun s0 => RN 80 Tryd.f80 (O80 a0) call icall n (tdOf Tryd.f80 0) (K80_0 s0)) = (L80 call n) from (funext fun s0 => ih s0)]; rfl)
theorem C80 (k : Nat) (a0 : List UInt8) : callN cfg (k + 1) 80 A80 (O80 a0) = T80 (callN cfg k) (L80 (callN cfg k) k) a0 := by
 have ih := R80 (callN cfg k) (icallN cfg (callN cfg k) 20) a0 k
 refine (show callN cfg (k + 1) 80 A80 (O80 a0) = GO 80 Tryd.f80 A80 (O80 a0) (callN cfg k) (icallN cfg (callN cfg k) 20) (RN 80 Tryd.f80 (O80 a0) (callN cfg k) (icallN cfg (callN cfg k) 20) k) by kernel_rfl).trans ((E80 _ _ _ a0).trans ?_)
 rw [show (fun s0 => RN 80 Tryd.f80 (O80 a0) (callN cfg k) (icallN cfg (callN cfg k) 20) k (tdOf Tryd.f80 0) (K80_0 s0)) = (L80 (callN cfg k) k) from (funext fun s0 => ih s0)]
theorem M80 (a0 : List UInt8) {r : V × List Ob} (h : Evt (fun k n => T80 (callN cfg k) (L80 (callN cfg k) n) a0) r) : Ret 80 [V.agg [V.ref 0 0]] [Ob.cells [V.str a0]] r := ret_mk (g := fun k n => T80 (callN cfg k) (L80 (callN cfg k) n) a0) (fun k => C80 k a0) h
theorem N80_0 (s0 : List UInt8) {r : V × List Ob} (h : Evt (fun k n => T80_0 (callN cfg k) (L80 (callN cfg k) n) s0) r) : Evt (fun k n => (L80 (callN cfg k) n) s0) r := evt_step (fun k n => rfl) h
def T81_0 (call : FuncId → Fun) (ag0 : Int → List UInt8 → Option (V × List Ob)) (i0 : Int) (s1 : List UInt8) : Option (V × List Ob) :=
 if (decide (i0 < ((length s1 : Nat) : Int))) = true then
 chk (decide (0 ≤ i0)) (chk (decide (i0 < ((length s1 : Nat) : Int))) (Option.bind (call 101 [(V.int .u8 ((UInt8.toNat (getD s1 (Int.toNat i0) 0) : Nat) : Int))] []) fun z0 =>
 if (getB z0.1) = true then
 (ag0 ((IntKind.wrap .i64 (i0 + (1 : Int)))) (s1))
 else
 chk (decide (0 ≤ i0)) (chk (decide (i0 ≤ ((length s1 : Nat) : Int))) (chk (decide (0 ≤ (0 : Int))) (chk (decide ((0 : Int) ≤ i0)) (chk (decide (0 ≤ i0)) (chk (decide (i0 ≤ ((length s1 : Nat) : Int))) (some ((V.str (drop (Int.toNat (0 : Int)) (take (Int.toNat i0) s1))), [(Ob.cells [(V.str (drop (Int.toNat i0) s1))])])))))))))
 else
 chk (decide (0 ≤ i0)) (chk (decide (i0 ≤ ((length s1 : Nat) : Int))) (chk (decide (0 ≤ (0 : Int))) (chk (decide ((0 : Int) ≤ i0)) (chk (decide (0 ≤ i0)) (chk (decide (i0 ≤ ((length s1 : Nat) : Int))) (some ((V.str (drop (Int.toNat (0 : Int)) (take (Int.toNat i0) s1))), [(Ob.cells [(V.str (drop (Int.toNat i0) s1))])])))))))
def T81 (call : FuncId → Fun) (ag0 : Int → List UInt8 → Option (V × List Ob)) (a0 : List UInt8) : Option (V × List Ob) :=
 (ag0 ((0 : Int)) (a0))
def O81 (a0 : List UInt8) : List Ob := [Ob.cells [V.str a0]]
def A81 : List V := [V.agg [V.ref 0 0]]
def K81_0 (i0 : Int) (s1 : List UInt8) : St := ⟨[V.bot, (V.ref 1 0), V.bot, (V.int IntKind.i64 i0)] ++ List.replicate 40 V.bot, [(Ob.cells [(V.str s1)]), (Ob.cells [(V.ref 0 0)])]⟩
theorem S81_0 (a0 : List UInt8) (i0 : Int) (s1 : List UInt8) :
 RM 81 Tryd.f81 (O81 a0) call icall again (tdOf Tryd.f81 0) (K81_0 i0 s1) = T81_0 call (fun i0 s1 => again (tdOf Tryd.f81 0) (K81_0 i0 s1)) i0 s1 := by kernel_rfl
theorem E81 (a0 : List UInt8) : GO 81 Tryd.f81 A81 (O81 a0) call icall again = T81 call (fun i0 s1 => again (tdOf Tryd.f81 0) (K81_0 i0 s1)) a0 := by kernel_rfl
def L81 (call : FuncId → Fun) : Nat → (Int → List UInt8 → Option (V × List Ob))
 | 0 => fun _ _ => none
 | n + 1 => T81_0 call (L81 call n)
theorem R81 (call : FuncId → Fun) (icall : ICall (V × List Ob)) (a0 : List UInt8) : ∀ n, (∀ (i0 : Int) (s1 : List UInt8), RN 81 Tryd.f81 (O81 a0) call icall n (tdOf Tryd.f81 0) (K81_0 i0 s1) = (L81 call n) i0 s1)
  | 0 => fun i0 s1 => rfl
  | n + 1 => by
    have ih := R81 call icall a0 n
    exact fun i0 s1 => (S81_0 call icall (RN 81 Tryd.f81 (O81 a0) call icall n) a0 i0 s1).trans (by rw [show (fun i0 s1 => RN 81 Tryd.f81 (O81 a0) call icall n (tdOf Tryd.f81 0) (K81_0 i0 s1)) = (L81 call n) from (funext fun i0 => funext fun s1 => ih i0 s1)]; rfl)
theorem C81 (k : Nat) (a0 : List UInt8) : callN cfg (k + 1) 81 A81 (O81 a0) = T81 (callN cfg k) (L81 (callN cfg k) k) a0 := by
 have ih := R81 (callN cfg k) (icallN cfg (callN cfg k) 20) a0 k
 refine (show callN cfg (k + 1) 81 A81 (O81 a0) = GO 81 Tryd.f81 A81 (O81 a0) (callN cfg k) (icallN cfg (callN cfg k) 20) (RN 81 Tryd.f81 (O81 a0) (callN cfg k) (icallN cfg (callN cfg k) 20) k) by kernel_rfl).trans ((E81 _ _ _ a0).trans ?_)
 rw [show (fun i0 s1 => RN 81 Tryd.f81 (O81 a0) (callN cfg k) (icallN cfg (callN cfg k) 20) k (tdOf Tryd.f81 0) (K81_0 i0 s1)) = (L81 (callN cfg k) k) from (funext fun i0 => funext fun s1 => ih i0 s1)]
theorem M81 (a0 : List UInt8) {r : V × List Ob} (h : Evt (fun k n => T81 (callN cfg k) (L81 (callN cfg k) n) a0) r) : Ret 81 [V.agg [V.ref 0 0]] [Ob.cells [V.str a0]] r := ret_mk (g := fun k n => T81 (callN cfg k) (L81 (callN cfg k) n) a0) (fun k => C81 k a0) h
theorem N81_0 (i0 : Int) (s1 : List UInt8) {r : V × List Ob} (h : Evt (fun k n => T81_0 (callN cfg k) (L81 (callN cfg k) n) i0 s1) r) : Evt (fun k n => (L81 (callN cfg k) n) i0 s1) r := evt_step (fun k n => rfl) h
def T82 (call : FuncId → Fun) (a0 : List UInt8) (a1 : Int) : Option (V × List Ob) :=
 Option.bind (call 80 [(V.agg [(V.ref 0 0)])] [(Ob.cells [(V.str a0)])]) fun z0 =>
 Option.bind (call 99 [(V.ref 0 0), (V.int .i64 0)] [(Ob.cells [(V.str (getS (headD (Ob.getC (headD z0.2 Ob.dead)) V.bot)))])]) fun z1 =>
 if ((getI z1.1) != a1) = true then
 some ((V.bool false), [(Ob.cells [(V.str (getS (headD (Ob.getC (headD z0.2 Ob.dead)) V.bot)))])])
 else
 chk (decide (0 ≤ (1 : Int))) (chk (decide ((1 : Int) ≤ ((length (getS (headD (Ob.getC (headD z0.2 Ob.dead)) V.bot)) : Nat) : Int))) (Option.bind (call 80 [(V.agg [(V.ref 0 0)])] [(Ob.cells [(V.str (drop (Int.toNat (1 : Int)) (getS (headD (Ob.getC (headD z0.2 Ob.dead)) V.bot))))])]) fun z2 =>
 some ((V.bool true), [(Ob.cells [(V.str (getS (headD (Ob.getC (headD z2.2 Ob.dead)) V.bot)))])])))
def O82 (a0 : List UInt8) : List Ob := [Ob.cells [V.str a0]]
def A82 (a1 : Int) : List V := [V.agg [V.ref 0 0], V.int IntKind.u8 a1]
theorem E82 (a0 : List UInt8) (a1 : Int) : GO 82 Tryd.f82 (A82 a1) (O82 a0) call icall again = T82 call a0 a1 := by kernel_rfl
theorem C82 (k : Nat) (a0 : List UInt8) (a1 : Int) : callN cfg (k + 1) 82 (A82 a1) (O82 a0) = T82 (callN cfg k) a0 a1 :=
 (show callN cfg (k + 1) 82 (A82 a1) (O82 a0) = GO 82 Tryd.f82 (A82 a1) (O82 a0) (callN cfg k) (icallN cfg (callN cfg k) 20) (RN 82 Tryd.f82 (O82 a0) (callN cfg k) (icallN cfg (callN cfg k) 20) k) by kernel_rfl).trans (E82 _ _ _ a0 a1)
theorem M82 (a0 : List UInt8) (a1 : Int) {r : V × List Ob} (h : Evt (fun k n => T82 (callN cfg k) a0 a1) r) : Ret 82 [V.agg [V.ref 0 0], V.int IntKind.u8 a1] [Ob.cells [V.str a0]] r := ret_mk (g := fun k n => T82 (callN cfg k) a0 a1) (fun k => C82 k a0 a1) h
def T83_0 (call : FuncId → Fun) (ag0 : List V → List UInt8 → Option (V × List Ob)) (l0 : List V) (s1 : List UInt8) : Option (V × List Ob) :=
 Option.bind (call 82 [(V.agg [(V.ref 0 0)]), (V.int .u8 59)] [(Ob.cells [(V.str s1)])]) fun z0 =>
 if (getB z0.1) = true then
 Option.bind (call 81 [(V.agg [(V.ref 0 0)])] [(Ob.cells [(V.str (getS (headD (Ob.getC (headD z0.2 Ob.dead)) V.bot)))])]) fun z1 =>
 Option.bind (call 65 [(V.str (getS z1.1))] []) fun z2 =>
 if (sEq (getS z2.1) []) = false then
 Option.bind (call 82 [(V.agg [(V.ref 0 0)]), (V.int .u8 61)] [(Ob.cells [(V.str (getS (headD (Ob.getC (headD z1.2 Ob.dead)) V.bot)))])]) fun z3 =>
 if (!(getB z3.1)) = true then
 some ((V.lst 116 false l0), [(Ob.cells [(V.str (getS (headD (Ob.getC (headD z3.2 Ob.dead)) V.bot)))])])
 else
 Option.bind (call 102 [(V.agg [(V.ref 0 0)])] [(Ob.cells [(V.str (getS (headD (Ob.getC (headD z3.2 Ob.dead)) V.bot)))])]) fun z4 =>
 if (!(getB (headD (tail (getT z4.1)) V.bot))) = true then
 some ((V.lst 116 false l0), [(Ob.cells [(V.str (getS (headD (Ob.getC (headD z4.2 Ob.dead)) V.bot)))])])
 else
 chk (appOk l0 [(V.agg [(V.str (getS z2.1)), (V.str (getS (headD (getT z4.1) V.bot)))])] 33) ((ag0 ((l0 ++ [(V.agg [(V.str (getS z2.1)), (V.str (getS (headD (getT z4.1) V.bot)))])])) ((getS (headD (Ob.getC (headD z4.2 Ob.dead)) V.bot)))))
 else
 some ((V.lst 116 false l0), [(Ob.cells [(V.str (getS (headD (Ob.getC (headD z1.2 Ob.dead)) V.bot)))])])
 else
 some ((V.lst 116 false l0), [(Ob.cells [(V.str (getS (headD (Ob.getC (headD z0.2 Ob.dead)) V.bot)))])])
def T83 (call : FuncId → Fun) (ag0 : List V → List UInt8 → Option (V × List Ob)) (a0 : List UInt8) : Option (V × List Ob) :=
 (ag0 ([]) (a0))
def O83 (a0 : List UInt8) : List Ob := [Ob.cells [V.str a0]]
def A83 : List V := [V.agg [V.ref 0 0]]
def K83_0 (l0 : List V) (s1 : List UInt8) : St := ⟨[V.bot, (V.ref 1 0), V.bot, (V.lst 116 true l0)] ++ List.replicate 29 V.bot, [(Ob.cells [(V.str s1)]), (Ob.cells [(V.ref 0 0)])]⟩
theorem S83_0 (a0 : List UInt8) (l0 : List V) (s1 : List UInt8) :
 RM 83 Tryd.f83 (O83 a0) call icall again (tdOf Tryd.f83 0) (K83_0 l0 s1) = T83_0 call (fun l0 s1 => again (tdOf Tryd.f83 0) (K83_0 l0 s1)) l0 s1 := by kernel_rfl
theorem E83 (a0 : List UInt8) : GO 83 Tryd.f83 A83 (O83 a0) call icall again = T83 call (fun l0 s1 => again (tdOf Tryd.f83 0) (K83_0 l0 s1)) a0 := by kernel_rfl
def L83 (call : FuncId → Fun) : Nat → (List V → List UInt8 → Option (V × List Ob))
 | 0 => fun _ _ => none
 | n + 1 => T83_0 call (L83 call n)
theorem R83 (call : FuncId → Fun) (icall : ICall (V × List Ob)) (a0 : List UInt8) : ∀ n, (∀ (l0 : List V) (s1 : List UInt8), RN 83 Tryd.f83 (O83 a0) call icall n (tdOf Tryd.f83 0) (K83_0 l0 s1) = (L83 call n) l0 s1)
  | 0 => fun l0 s1 => rfl
  | n + 1 => by
    have ih := R83 call icall a0 n
    exact fun l0 s1 => (S83_0 call icall (RN 83 Tryd.f83 (O83 a0) call icall n) a0 l0 s1).trans (by rw [show (fun l0 s1 => RN 83 Tryd.f83 (O83 a0) call icall n (tdOf Tryd.f83 0) (K83_0 l0 s1)) = (L83 call n) from (funext fun l0 => funext fun s1 => ih l0 s1)]; rfl)
theorem C83 (k : Nat) (a0 : List UInt8) : callN cfg (k + 1) 83 A83 (O83 a0) = T83 (callN cfg k) (L83 (callN cfg k) k) a0 := by
 have ih := R83 (callN cfg k) (icallN cfg (callN cfg k) 20) a0 k
 refine (show callN cfg (k + 1) 83 A83 (O83 a0) = GO 83 Tryd.f83 A83 (O83 a0) (callN cfg k) (icallN cfg (callN cfg k) 20) (RN 83 Tryd.f83 (O83 a0) (callN cfg k) (icallN cfg (callN cfg k) 20) k) by kernel_rfl).trans ((E83 _ _ _ a0).trans ?_)
 rw [show (fun l0 s1 => RN 83 Tryd.f83 (O83 a0) (callN cfg k) (icallN cfg (callN cfg k) 20) k (tdOf Tryd.f83 0) (K83_0 l0 s1)) = (L83 (callN cfg k) k) from (funext fun l0 => funext fun s1 => ih l0 s1)]
theorem M83 (a0 : List UInt8) {r : V × List Ob} (h : Evt (fun k n => T83 (callN cfg k) (L83 (callN cfg k) n) a0) r) : Ret 83 [V.agg [V.ref 0 0]] [Ob.cells [V.str a0]] r := ret_mk (g := fun k n => T83 (callN cfg k) (L83 (callN cfg k) n) a0) (fun k => C83 k a0) h
theorem N83_0 (l0 : List V) (s1 : List UInt8) {r : V × List Ob} (h : Evt (fun k n => T83_0 (callN cfg k) (L83 (callN cfg k) n) l0 s1) r) : Evt (fun k n => (L83 (callN cfg k) n) l0 s1) r := evt_step (fun k n => rfl) h
def T84 (call : FuncId → Fun) (a0 : List UInt8) (a1 : List UInt8) : Option (V × List Ob) :=
 Option.bind (call 103 [(V.str a0), (V.str a1)] []) fun z0 =>
 some ((V.tup [(V.str (getS (headD (getT z0.1) V.bot))), (V.str (getS (headD (tail (getT z0.1)) V.bot))), (V.bool (getB (headD (tail (tail (getT z0.1))) V.bot)))]), [])
def A84 (a0 : List UInt8) (a1 : List UInt8) : List V := [V.str a0, V.str a1]
theorem E84 (a0 : List UInt8) (a1 : List UInt8) : GO 84 Tryd.f84 (A84 a0 a1) [] call icall again = T84 call a0 a1 := by kernel_rfl
theorem C84 (k : Nat) (a0 : List UInt8) (a1 : List UInt8) : callN cfg (k + 1) 84 (A84 a0 a1) [] = T84 (callN cfg k) a0 a1 :=
 (show callN cfg (k + 1) 84 (A84 a0 a1) [] = GO 84 Tryd.f84 (A84 a0 a1) [] (callN cfg k) (icallN cfg (callN cfg k) 20) (RN 84 Tryd.f84 [] (callN cfg k) (icallN cfg (callN cfg k) 20) k) by kernel_rfl).trans (E84 _ _ _ a0 a1)
theorem M84 (a0 : List UInt8) (a1 : List UInt8) {r : V × List Ob} (h : Evt (fun k n => T84 (callN cfg k) a0 a1) r) : Ret 84 [V.str a0, V.str a1] [] r := ret_mk (g := fun k n => T84 (callN cfg k) a0 a1) (fun k => C84 k a0 a1) h
def T85 (call : FuncId → Fun) (a0 : List V) (a1 : List UInt8) : Option (V × List Ob) :=
 Option.bind (call 104 [(V.lst 116 false a0), (V.str a1)] []) fun z0 =>
 if (getB (headD (tail (getT z0.1)) V.bot)) = true then
 some ((V.tup [(V.str (getS (headD (getT z0.1) V.bot))), (V.bool true)]), [])
 else
 chk (catOk a1 [42]) (Option.bind (call 104 [(V.lst 116 false a0), (V.str (a1 ++ [42]))] []) fun z1 =>
 if (getB (headD (tail (getT z1.1)) V.bot)) = true then
 Option.bind (call 106 [(V.str (getS (headD (getT z1.1) V.bot)))] []) fun z2 =>
 Option.bind (call 105 [(V.str (getS z2.1))] []) fun z3 =>
 some ((V.tup [(V.str (getS z3.1)), (V.bool true)]), [])
 else
 Option.bind (call 107 [(V.lst 116 false a0), (V.str a1)] []) fun z2 =>
 some ((V.tup [(V.str (getS (headD (getT z2.1) V.bot))), (V.bool (getB (headD (tail (getT z2.1)) V.bot)))]), []))
def A85 (a0 : List V) (a1 : List UInt8) : List V := [V.lst 116 false a0, V.str a1]
theorem E85 (a0 : List V) (a1 : List UInt8) : GO 85 Tryd.f85 (A85 a0 a1) [] call icall again = T85 call a0 a1 := by kernel_rfl
theorem C85 (k : Nat) (a0 : List V) (a1 : List UInt8) : callN cfg (k + 1) 85 (A85 a0 a1) [] = T85 (callN cfg k) a0 a1 :=
 (show callN cfg (k + 1) 85 (A85 a0 a1) [] = GO 85 Tryd.f85 (A85 a0 a1) [] (callN cfg k) (icallN cfg (callN cfg k) 20) (RN 85 Tryd.f85 [] (callN cfg k) (icallN cfg (callN cfg k) 20) k) by kernel_rfl).trans (E85 _ _ _ a0 a1)
theorem M85 (a0 : List V) (a1 : List UInt8) {r : V × List Ob} (h : Evt (fun k n => T85 (callN cfg k) a0 a1) r) : Ret 85 [V.lst 116 false a0, V.str a1] [] r := ret_mk (g := fun k n => T85 (callN cfg k) a0 a1) (fun k => C85 k a0 a1) h
def T99 (call : FuncId → Fun) (a0 : List UInt8) (a1 : Int) : Option (V × List Ob) :=
 if (decide (a1 ≥ ((length a0 : Nat) : Int))) = true then
 some ((V.int .u8 0), [(Ob.cells [(V.str a0)])])
 else
 chk (decide (0 ≤ a1)) (chk (decide (a1 < ((length a0 : Nat) : Int))) (some ((V.int .u8 ((UInt8.toNat (getD a0 (Int.toNat a1) 0) : Nat) : Int)), [(Ob.cells [(V.str a0)])])))
def O99 (a0 : List UInt8) : List Ob := [Ob.cells [V.str a0]]
def A99 (a1 : Int) : List V := [V.ref 0 0, V.int IntKind.i64 a1]
theorem E99 (a0 : List UInt8) (a1 : Int) : GO 99 Tryd.f99 (A99 a1) (O99 a0) call icall again = T99 call a0 a1 := by kernel_rfl
theorem C99 (k : Nat) (a0 : List UInt8) (a1 : Int) : callN cfg (k + 1) 99 (A99 a1) (O99 a0) = T99 (callN cfg k) a0 a1 :=
 (show callN cfg (k + 1) 99 (A99 a1) (O99 a0) = GO 99 Tryd.f99 (A99 a1) (O99 a0) (callN cfg k) (icallN cfg (callN cfg k) 20) (RN 99 Tryd.f99 (O99 a0) (callN cfg k) (icallN cfg (callN cfg k) 20) k) by kernel_rfl).trans (E99 _ _ _ a0 a1)
theorem M99 (a0 : List UInt8) (a1 : Int) {r : V × List Ob} (h : Evt (fun k n => T99 (callN cfg k) a0 a1) r) : Ret 99 [V.ref 0 0, V.int IntKind.i64 a1] [Ob.cells [V.str a0]] r := ret_mk (g := fun k n => T99 (callN cfg k) a0 a1) (fun k => C99 k a0 a1) h
def T78 (call : FuncId → Fun) (a0 : Int) : Option (V × List Ob) :=
 Option.bind (if (a0 == (32 : Int)) = false then
 some (a0 == (9 : Int))
 else
 some true) fun y0 =>
 some ((V.bool y0), [])
def A78 (a0 : Int) : List V := [V.int IntKind.u8 a0]
theorem E78 (a0 : Int) : GO 78 Tryd.f78 (A78 a0) [] call icall again = T78 call a0 := by kernel_rfl
theorem C78 (k : Nat) (a0 : Int) : callN cfg (k + 1) 78 (A78 a0) [] = T78 (callN cfg k) a0 :=
 (show callN cfg (k + 1) 78 (A78 a0) [] = GO 78 Tryd.f78 (A78 a0) [] (callN cfg k) (icallN cfg (callN cfg k) 20) (RN 78 Tryd.f78 [] (callN cfg k) (icallN cfg (callN cfg k) 20) k) by kernel_rfl).trans (E78 _ _ _ a0)
theorem M78 (a0 : Int) {r : V × List Ob} (h : Evt (fun k n => T78 (callN cfg k) a0) r) : Ret 78 [V.int IntKind.u8 a0] [] r := ret_mk (g := fun k n => T78 (callN cfg k) a0) (fun k => C78 k a0) h
def T100_0 (call : FuncId → Fun) (ag0 : Int → Int → List UInt8 → Option (V × List Ob)) (i0 : Int) (i1 : Int) (s2 : List UInt8) : Option (V × List Ob) :=
 if (decide (i1 < ((length s2 : Nat) : Int))) = true then
 chk (decide (0 ≤ i1)) (chk (decide (i1 < ((length s2 : Nat) : Int))) (if (((UInt8.toNat (getD s2 (Int.toNat i1) 0) : Nat) : Int) == (92 : Int)) = true then
 (ag0 (i0) ((IntKind.wrap .i64 ((IntKind.wrap .i64 (i1 + (1 : Int))) + (1 : Int)))) (s2))
 else
 if (((UInt8.toNat (getD s2 (Int.toNat i1) 0) : Nat) : Int) == (40 : Int)) = true then
 (ag0 ((IntKind.wrap .i64 (i0 + (1 : Int)))) ((IntKind.wrap .i64 (i1 + (1 : Int)))) (s2))
 else
 if (((UInt8.toNat (getD s2 (Int.toNat i1) 0) : Nat) : Int) == (41 : Int)) = true then
 if ((IntKind.wrap .i64 (i0 - (1 : Int))) == (0 : Int)) = true then
 some ((V.int .i64 (IntKind.wrap .i64 (i1 + (1 : Int)))), [(Ob.cells [(V.str s2)])])
 else
 (ag0 ((IntKind.wrap .i64 (i0 - (1 : Int)))) ((IntKind.wrap .i64 (i1 + (1 : Int)))) (s2))
 else
 (ag0 (i0) ((IntKind.wrap .i64 (i1 + (1 : Int)))) (s2))))
 else
 some ((V.int .i64 ((length s2 : Nat) : Int)), [(Ob.cells [(V.str s2)])])
def T100 (call : FuncId → Fun) (ag0 : Int → Int → List UInt8 → Option (V × List Ob)) (a0 : List UInt8) : Option (V × List Ob) :=
 (ag0 ((0 : Int)) ((0 : Int)) (a0))
def O100 (a0 : List UInt8) : List Ob := [Ob.cells [V.str a0]]
def A100 : List V := [V.agg [V.ref 0 0]]
def K100_0 (i0 : Int) (i1 : Int) (s2 : List UInt8) : St := ⟨[V.bot, (V.ref 1 0), V.bot, (V.int IntKind.i64 i0), (V.int IntKind.i64 i1)] ++ List.replicate 39 V.bot, [(Ob.cells [(V.str s2)]), (Ob.cells [(V.ref 0 0)])]⟩
theorem S100_0 (a0 : List UInt8) (i0 : Int) (i1 : Int) (s2 : List UInt8) :
 RM 100 Tryd.f100 (O100 a0) call icall again (tdOf Tryd.f100 0) (K100_0 i0 i1 s2) = T100_0 call (fun i0 i1 s2 => again (tdOf Tryd.f100 0) (K100_0 i0 i1 s2)) i0 i1 s2 := by kernel_rfl
theorem E100 (a0 : List UInt8) : GO 100 Tryd.f100 A100 (O100 a0) call icall again = T100 call (fun i0 i1 s2 => again (tdOf Tryd.f100 0) (K100_0 i0 i1 s2)) a0 := by kernel_rfl
def L100 (call : FuncId → Fun) : Nat → (Int → Int → List UInt8 → Option (V × List Ob))
 | 0 => fun _ _ _ => none
 | n + 1 => T100_0 call (L100 call n)
theorem R100 (call : FuncId → Fun) (icall : ICall (V × List Ob)) (a0 : List UInt8) : ∀ n, (∀ (i0 : Int) (i1 : Int) (s2 : List UInt8), RN 100 Tryd.f100 (O100 a0) call icall n (tdOf Tryd.f100 0) (K100_0 i0 i1 s2) = (L100 call n) i0 i1 s2)
  | 0 => fun i0 i1 s2 => rfl
  | n + 1 => by
    have ih := R100 call icall a0 n
    exact fun i0 i1 s2 => (S100_0 call icall (RN 100 Tryd.f100 (O100 a0) call icall n) a0 i0 i1 s2).trans (by rw [show (fun i0 i1 s2 => RN 100 Tryd.f100 (O100 a0) call icall n (tdOf Tryd.f100 0) (K100_0 i0 i1 s2)) = (L100 call n) from (funext fun i0 => funext fun i1 => funext fun s2 => ih i0 i1 s2)]; rfl)
theorem C100 (k : Nat) (a0 : List UInt8) : callN cfg (k + 1) 100 A100 (O100 a0) = T100 (callN cfg k) (L100 (callN cfg k) k) a0 := by
 have ih := R100 (callN cfg k) (icallN cfg (callN cfg k) 20) a0 k
 refine (show callN cfg (k + 1) 100 A100 (O100 a0) = GO 100 Tryd.f100 A100 (O100 a0) (callN cfg k) (icallN cfg (callN cfg k) 20) (RN 100 Tryd.f100 (O100 a0) (callN cfg k) (icallN cfg (callN cfg k) 20) k) by kernel_rfl).trans ((E100 _ _ _ a0).trans ?_)
 rw [show (fun i0 i1 s2 => RN 100 Tryd.f100 (O100 a0) (callN cfg k) (icallN cfg (callN cfg k) 20) k (tdOf Tryd.f100 0) (K100_0 i0 i1 s2)) = (L100 (callN cfg k) k) from (funext fun i0 => funext fun i1 => funext fun s2 => ih i0 i1 s2)]
theorem M100 (a0 : List UInt8) {r : V × List Ob} (h : Evt (fun k n => T100 (callN cfg k) (L100 (callN cfg k) n) a0) r) : Ret 100 [V.agg [V.ref 0 0]] [Ob.cells [V.str a0]] r := ret_mk (g := fun k n => T100 (callN cfg k) (L100 (callN cfg k) n) a0) (fun k => C100 k a0) h
theorem N100_0 (i0 : Int) (i1 : Int) (s2 : List UInt8) {r : V × List Ob} (h : Evt (fun k n => T100_0 (callN cfg k) (L100 (callN cfg k) n) i0 i1 s2) r) : Evt (fun k n => (L100 (callN cfg k) n) i0 i1 s2) r := evt_step (fun k n => rfl) h
def T90 (call : FuncId → Fun) (a0 : Int) : Option (V × List Ob) :=
 Option.bind (if (decide (a0 ≥ (65 : Int))) = true then
 some (decide (a0 ≤ (90 : Int)))
 else
 some false) fun y0 =>
 if y0 = true then
 some ((V.int .u8 (IntKind.wrap .u8 ((IntKind.wrap .u8 (a0 - (65 : Int))) + (97 : Int)))), [])
 else
 some ((V.int .u8 a0), [])
def A90 (a0 : Int) : List V := [V.int IntKind.u8 a0]
theorem E90 (a0 : Int) : GO 90 Tryd.f90 (A90 a0) [] call icall again = T90 call a0 := by kernel_rfl
theorem C90 (k : Nat) (a0 : Int) : callN cfg (k + 1) 90 (A90 a0) [] = T90 (callN cfg k) a0 :=
 (show callN cfg (k + 1) 90 (A90 a0) [] = GO 90 Tryd.f90 (A90 a0) [] (callN cfg k) (icallN cfg (callN cfg k) 20) (RN 90 Tryd.f90 [] (callN cfg k) (icallN cfg (callN cfg k) 20) k) by kernel_rfl).trans (E90 _ _ _ a0)
theorem M90 (a0 : Int) {r : V × List Ob} (h : Evt (fun k n => T90 (callN cfg k) a0) r) : Ret 90 [V.int IntKind.u8 a0] [] r := ret_mk (g := fun k n => T90 (callN cfg k) a0) (fun k => C90 k a0) h
def T101 (call : FuncId → Fun) (a0 : Int) : Option (V × List Ob) :=
 if (decide (a0 ≥ (33 : Int))) = true then
 if (decide (a0 ≤ (126 : Int))) = true then
 Option.bind (call 111 [(V.str [40, 41, 60, 62, 64, 44, 59, 58, 92, 34, 47, 91, 93, 63, 61]), (V.int .u8 a0)] []) fun z0 =>
 some ((V.bool (!(getB z0.1))), [])
 else
 some ((V.bool false), [])
 else
 some ((V.bool false), [])
def A101 (a0 : Int) : List V := [V.int IntKind.u8 a0]
theorem E101 (a0 : Int) : GO 101 Tryd.f101 (A101 a0) [] call icall again = T101 call a0 := by kernel_rfl
theorem C101 (k : Nat) (a0 : Int) : callN cfg (k + 1) 101 (A101 a0) [] = T101 (callN cfg k) a0 :=
 (show callN cfg (k + 1) 101 (A101 a0) [] = GO 101 Tryd.f101 (A101 a0) [] (callN cfg k) (icallN cfg (callN cfg k) 20) (RN 101 Tryd.f101 [] (callN cfg k) (icallN cfg (callN cfg k) 20) k) by kernel_rfl).trans (E101 _ _ _ a0)
theorem M101 (a0 : Int) {r : V × List Ob} (h : Evt (fun k n => T101 (callN cfg k) a0) r) : Ret 101 [V.int IntKind.u8 a0] [] r := ret_mk (g := fun k n => T101 (callN cfg k) a0) (fun k => C101 k a0) h
def T102 (call : FuncId → Fun) (a0 : List UInt8) : Option (V × List Ob) :=
 Option.bind (call 99 [(V.ref 0 0), (V.int .i64 0)] [(Ob.cells [(V.str a0)])]) fun z0 =>
 if ((getI z0.1) == (34 : Int)) = true then
 Option.bind (call 112 [(V.agg [(V.ref 0 0)])] [(Ob.cells [(V.str a0)])]) fun z1 =>
 some ((V.tup [(V.str (getS (headD (getT z1.1) V.bot))), (V.bool (getB (headD (tail (getT z1.1)) V.bot)))]), [(Ob.cells [(V.str (getS (headD (Ob.getC (headD z1.2 Ob.dead)) V.bot)))])])
 else
 Option.bind (call 81 [(V.agg [(V.ref 0 0)])] [(Ob.cells [(V.str a0)])]) fun z1 =>
 some ((V.tup [(V.str (getS z1.1)), (V.bool (!(sEq (getS z1.1) [])))]), [(Ob.cells [(V.str (getS (headD (Ob.getC (headD z1.2 Ob.dead)) V.bot)))])])
def O102 (a0 : List UInt8) : List Ob := [Ob.cells [V.str a0]]
def A102 : List V := [V.agg [V.ref 0 0]]
theorem E102 (a0 : List UInt8) : GO 102 Tryd.f102 A102 (O102 a0) call icall again = T102 call a0 := by kernel_rfl
theorem C102 (k : Nat) (a0 : List UInt8) : callN cfg (k + 1) 102 A102 (O102 a0) = T102 (callN cfg k) a0 :=
 (show callN cfg (k + 1) 102 A102 (O102 a0) = GO 102 Tryd.f102 A102 (O102 a0) (callN cfg k) (icallN cfg (callN cfg k) 20) (RN 102 Tryd.f102 (O102 a0) (callN cfg k) (icallN cfg (callN cfg k) 20) k) by kernel_rfl).trans (E102 _ _ _ a0)
theorem M102 (a0 : List UInt8) {r : V × List Ob} (h : Evt (fun k n => T102 (callN cfg k) a0) r) : Ret 102 [V.agg [V.ref 0 0]] [Ob.cells [V.str a0]] r := ret_mk (g := fun k n => T102 (callN cfg k) a0) (fun k => C102 k a0) h
def T103 (call : FuncId → Fun) (a0 : List UInt8) (a1 : List UInt8) : Option (V × List Ob) :=
 Option.bind (call 113 [(V.str a0), (V.str a1)] []) fun z0 =>
 if (decide ((getI z0.1) ≥ (0 : Int))) = true then
 chk (decide (0 ≤ (getI z0.1))) (chk (decide ((getI z0.1) ≤ ((length a0 : Nat) : Int))) (chk (decide (0 ≤ (0 : Int))) (chk (decide ((0 : Int) ≤ (getI z0.1))) (chk (decide (0 ≤ (IntKind.wrap .i64 ((getI z0.1) + ((length a1 : Nat) : Int))))) (chk (decide ((IntKind.wrap .i64 ((getI z0.1) + ((length a1 : Nat) : Int))) ≤ ((length a0 : Nat) : Int))) (some ((V.tup [(V.str (drop (Int.toNat (0 : Int)) (take (Int.toNat (getI z0.1)) a0))), (V.str (drop (Int.toNat (IntKind.wrap .i64 ((getI z0.1) + ((length a1 : Nat) : Int)))) a0)), (V.bool true)]), [])))))))
 else
 some ((V.tup [(V.str a0), (V.str []), (V.bool false)]), [])
def A103 (a0 : List UInt8) (a1 : List UInt8) : List V := [V.str a0, V.str a1]
theorem E103 (a0 : List UInt8) (a1 : List UInt8) : GO 103 Tryd.f103 (A103 a0 a1) [] call icall again = T103 call a0 a1 := by kernel_rfl
theorem C103 (k : Nat) (a0 : List UInt8) (a1 : List UInt8) : callN cfg (k + 1) 103 (A103 a0 a1) [] = T103 (callN cfg k) a0 a1 :=
 (show callN cfg (k + 1) 103 (A103 a0 a1) [] = GO 103 Tryd.f103 (A103 a0 a1) [] (callN cfg k) (icallN cfg (callN cfg k) 20) (RN 103 Tryd.f103 [] (callN cfg k) (icallN cfg (callN cfg k) 20) k) by kernel_rfl).trans (E103 _ _ _ a0 a1)
theorem M103 (a0 : List UInt8) (a1 : List UInt8) {r : V × List Ob} (h : Evt (fun k n => T103 (callN cfg k) a0 a1) r) : Ret 103 [V.str a0, V.str a1] [] r := ret_mk (g := fun k n => T103 (callN cfg k) a0 a1) (fun k => C103 k a0 a1) h
def T104_0 (call : FuncId → Fun) (ag0 : List UInt8 → List V → Int → Int → Option (V × List Ob)) (s0 : List UInt8) (l1 : List V) (i2 : Int) (i3 : Int) : Option (V × List Ob) :=
 if (decide (i3 < i2)) = true then
 chk (decide (0 ≤ i3)) (chk (decide (i3 < ((length l1 : Nat) : Int))) (if (sEq (getS (headD (V.cells (getD l1 (Int.toNat i3) V.bot)) V.bot)) s0) = true then
 some ((V.tup [(V.str (getS (headD (tail (V.cells (getD l1 (Int.toNat i3) V.bot))) V.bot))), (V.bool true)]), [])
 else
 (ag0 (s0) (l1) (i2) ((IntKind.wrap .i64 (i3 + (1 : Int)))))))
 else
 some ((V.tup [(V.str []), (V.bool false)]), [])
def T104 (call : FuncId → Fun) (ag0 : List UInt8 → List V → Int → Int → Option (V × List Ob)) (a0 : List V) (a1 : List UInt8) : Option (V × List Ob) :=
 (ag0 (a1) (a0) (((length a0 : Nat) : Int)) ((0 : Int)))
def A104 (a0 : List V) (a1 : List UInt8) : List V := [V.lst 116 false a0, V.str a1]
def K104_0 (s0 : List UInt8) (l1 : List V) (i2 : Int) (i3 : Int) : St := ⟨[V.bot, (V.str s0), V.bot, V.bot, V.bot, V.bot, V.bot, V.bot, (V.lst 116 false l1), (V.int IntKind.i64 i2), (V.int IntKind.i64 i3)] ++ List.replicate 10 V.bot, []⟩
theorem S104_0 (s0 : List UInt8) (l1 : List V) (i2 : Int) (i3 : Int) :
 RM 104 Tryd.f104 [] call icall again (tdOf Tryd.f104 0) (K104_0 s0 l1 i2 i3) = T104_0 call (fun s0 l1 i2 i3 => again (tdOf Tryd.f104 0) (K104_0 s0 l1 i2 i3)) s0 l1 i2 i3 := by kernel_rfl
theorem E104 (a0 : List V) (a1 : List UInt8) : GO 104 Tryd.f104 (A104 a0 a1) [] call icall again = T104 call (fun s0 l1 i2 i3 => again (tdOf Tryd.f104 0) (K104_0 s0 l1 i2 i3)) a0 a1 := by kernel_rfl
def L104 (call : FuncId → Fun) : Nat → (List UInt8 → List V → Int → Int → Option (V × List Ob))
 | 0 => fun _ _ _ _ => none
 | n + 1 => T104_0 call (L104 call n)
theorem R104 (call : FuncId → Fun) (icall : ICall (V × List Ob)) : ∀ n, (∀ (s0 : List UInt8) (l1 : List V) (i2 : Int) (i3 : Int), RN 104 Tryd.f104 [] call icall n (tdOf Tryd.f104 0) (K104_0 s0 l1 i2 i3) = (L104 call n) s0 l1 i2 i3)
  | 0 => fun s0 l1 i2 i3 => rfl
  | n + 1 => by
    have ih := R104 call icall n
    exact fun s0 l1 i2 i3 => (S104_0 call icall (RN 104 Tryd.f104 [] call icall n) s0 l1 i2 i3).trans (by rw [show (fun s0 l1 i2 i3 => RN 104 Tryd.f104 [] call icall n (tdOf Tryd.f104 0) (K104_0 s0 l1 i2 i3)) = (L104 call n) from (funext fun s0 => funext fun l1 => funext fun i2 => funext fun i3 => ih s0 l1 i2 i3)]; rfl)
theorem C104 (k : Nat) (a0 : List V) (a1 : List UInt8) : callN cfg (k + 1) 104 (A104 a0 a1) [] = T104 (callN cfg k) (L104 (callN cfg k) k) a0 a1 := by
 have ih := R104 (callN cfg k) (icallN cfg (callN cfg k) 20) k
 refine (show callN cfg (k + 1) 104 (A104 a0 a1) [] = GO 104 Tryd.f104 (A104 a0 a1) [] (callN cfg k) (icallN cfg (callN cfg k) 20) (RN 104 Tryd.f104 [] (callN cfg k) (icallN cfg (callN cfg k) 20) k) by kernel_rfl).trans ((E104 _ _ _ a0 a1).trans ?_)
 rw [show (fun s0 l1 i2 i3 => RN 104 Tryd.f104 [] (callN cfg k) (icallN cfg (callN cfg k) 20) k (tdOf Tryd.f104 0) (K104_0 s0 l1 i2 i3)) = (L104 (callN cfg k) k) from (funext fun s0 => funext fun l1 => funext fun i2 => funext fun i3 => ih s0 l1 i2 i3)]
theorem M104 (a0 : List V) (a1 : List UInt8) {r : V × List Ob} (h : Evt (fun k n => T104 (callN cfg k) (L104 (callN cfg k) n) a0 a1) r) : Ret 104 [V.lst 116 false a0, V.str a1] [] r := ret_mk (g := fun k n => T104 (callN cfg k) (L104 (callN cfg k) n) a0 a1) (fun k => C104 k a0 a1) h
theorem N104_0 (s0 : List UInt8) (l1 : List V) (i2 : Int) (i3 : Int) {r : V × List Ob} (h : Evt (fun k n => T104_0 (callN cfg k) (L104 (callN cfg k) n) s0 l1 i2 i3) r) : Evt (fun k n => (L104 (callN cfg k) n) s0 l1 i2 i3) r := evt_step (fun k n => rfl) h
def T105_0 (call : FuncId → Fun) (ag0 : List UInt8 → List V → Int → Option (V × List Ob)) (s0 : List UInt8) (l1 : List V) (i2 : Int) : Option (V × List Ob) :=
 if (decide (i2 < ((length s0 : Nat) : Int))) = true then
 Option.bind (chk (decide (0 ≤ i2)) (chk (decide (i2 < ((length s0 : Nat) : Int))) (if (((UInt8.toNat (getD s0 (Int.toNat i2) 0) : Nat) : Int) == (37 : Int)) = true then
 some (decide ((IntKind.wrap .i64 (i2 + (2 : Int))) < ((length s0 : Nat) : Int)))
 else
 some false))) fun y0 =>
 if y0 = true then
 chk (decide (0 ≤ (IntKind.wrap .i64 (i2 + (1 : Int))))) (chk (decide ((IntKind.wrap .i64 (i2 + (1 : Int))) < ((length s0 : Nat) : Int))) (Option.bind (call 114 [(V.int .u8 ((UInt8.toNat (getD s0 (Int.toNat (IntKind.wrap .i64 (i2 + (1 : Int)))) 0) : Nat) : Int))] []) fun z1 =>
 chk (decide (0 ≤ (IntKind.wrap .i64 (i2 + (2 : Int))))) (chk (decide ((IntKind.wrap .i64 (i2 + (2 : Int))) < ((length s0 : Nat) : Int))) (Option.bind (call 114 [(V.int .u8 ((UInt8.toNat (getD s0 (Int.toNat (IntKind.wrap .i64 (i2 + (2 : Int)))) 0) : Nat) : Int))] []) fun z2 =>
 Option.bind (if (getB (headD (tail (getT z1.1)) V.bot)) = true then
 some (getB (headD (tail (getT z2.1)) V.bot))
 else
 some false) fun y3 =>
 if y3 = true then
 chk (decide (0 ≤ (4 : Int))) (chk (appOk l1 [(V.int .u8 (bits BinOp.or .u8 (IntKind.wrap .u8 ((getI (headD (getT z1.1) V.bot)) * 2 ^ min (Int.toNat (4 : Int)) (IntKind.bits .u8))) (getI (headD (getT z2.1) V.bot))))] 2) ((ag0 (s0) ((l1 ++ [(V.int .u8 (bits BinOp.or .u8 (IntKind.wrap .u8 ((getI (headD (getT z1.1) V.bot)) * 2 ^ min (Int.toNat (4 : Int)) (IntKind.bits .u8))) (getI (headD (getT z2.1) V.bot))))])) ((IntKind.wrap .i64 ((IntKind.wrap .i64 (i2 + (2 : Int))) + (1 : Int)))))))
 else
 chk (decide (0 ≤ i2)) (chk (decide (i2 < ((length s0 : Nat) : Int))) (chk (appOk l1 [(V.int .u8 ((UInt8.toNat (getD s0 (Int.toNat i2) 0) : Nat) : Int))] 2) ((ag0 (s0) ((l1 ++ [(V.int .u8 ((UInt8.toNat (getD s0 (Int.toNat i2) 0) : Nat) : Int))])) ((IntKind.wrap .i64 (i2 + (1 : Int))))))))))))
 else
 chk (decide (0 ≤ i2)) (chk (decide (i2 < ((length s0 : Nat) : Int))) (chk (appOk l1 [(V.int .u8 ((UInt8.toNat (getD s0 (Int.toNat i2) 0) : Nat) : Int))] 2) ((ag0 (s0) ((l1 ++ [(V.int .u8 ((UInt8.toNat (getD s0 (Int.toNat i2) 0) : Nat) : Int))])) ((IntKind.wrap .i64 (i2 + (1 : Int))))))))
 else
 some ((V.str (bytesOf l1)), [])
def T105 (call : FuncId → Fun) (ag0 : List UInt8 → List V → Int → Option (V × List Ob)) (a0 : List UInt8) : Option (V × List Ob) :=
 (ag0 (a0) ([]) ((0 : Int)))
def A105 (a0 : List UInt8) : List V := [V.str a0]
def K105_0 (s0 : List UInt8) (l1 : List V) (i2 : Int) : St := ⟨[(V.str s0), V.bot, V.bot, (V.lst 5 true l1), (V.int IntKind.i64 i2)] ++ List.replicate 58 V.bot, []⟩
theorem S105_0 (s0 : List UInt8) (l1 : List V) (i2 : Int) :
 RM 105 Tryd.f105 [] call icall again (tdOf Tryd.f105 0) (K105_0 s0 l1 i2) = T105_0 call (fun s0 l1 i2 => again (tdOf Tryd.f105 0) (K105_0 s0 l1 i2)) s0 l1 i2 := by kernel_rfl
theorem E105 (a0 : List UInt8) : GO 105 Tryd.f105 (A105 a0) [] call icall again = T105 call (fun s0 l1 i2 => again (tdOf Tryd.f105 0) (K105_0 s0 l1 i2)) a0 := by kernel_rfl
def L105 (call : FuncId → Fun) : Nat → (List UInt8 → List V → Int → Option (V × List Ob))
 | 0 => fun _ _ _ => none
 | n + 1 => T105_0 call (L105 call n)
theorem R105 (call : FuncId → Fun) (icall : ICall (V × List Ob)) : ∀ n, (∀ (s0 : List UInt8) (l1 : List V) (i2 : Int), RN 105 Tryd.f105 [] call icall n (tdOf Tryd.f105 0) (K105_0 s0 l1 i2) = (L105 call n) s0 l1 i2)
  | 0 => fun s0 l1 i2 => rfl
  | n + 1 => by
    have ih := R105 call icall n
    exact fun s0 l1 i2 => (S105_0 call icall (RN 105 Tryd.f105 [] call icall n) s0 l1 i2).trans (by rw [show (fun s0 l1 i2 => RN 105 Tryd.f105 [] call icall n (tdOf Tryd.f105 0) (K105_0 s0 l1 i2)) = (L105 call n) from (funext fun s0 => funext fun l1 => funext fun i2 => ih s0 l1 i2)]; rfl)
theorem C105 (k : Nat) (a0 : List UInt8) : callN cfg (k + 1) 105 (A105 a0) [] = T105 (callN cfg k) (L105 (callN cfg k) k) a0 := by
 have ih := R105 (callN cfg k) (icallN cfg (callN cfg k) 20) k
 refine (show callN cfg (k + 1) 105 (A105 a0) [] = GO 105 Tryd.f105 (A105 a0) [] (callN cfg k) (icallN cfg (callN cfg k) 20) (RN 105 Tryd.f105 [] (callN cfg k) (icallN cfg (callN cfg k) 20) k) by kernel_rfl).trans ((E105 _ _ _ a0).trans ?_)
 rw [show (fun s0 l1 i2 => RN 105 Tryd.f105 [] (callN cfg k) (icallN cfg (callN cfg k) 20) k (tdOf Tryd.f105 0) (K105_0 s0 l1 i2)) = (L105 (callN cfg k) k) from (funext fun s0 => funext fun l1 => funext fun i2 => ih s0 l1 i2)]
theorem M105 (a0 : List UInt8) {r : V × List Ob} (h : Evt (fun k n => T105 (callN cfg k) (L105 (callN cfg k) n) a0) r) : Ret 105 [V.str a0] [] r := ret_mk (g := fun k n => T105 (callN cfg k) (L105 (callN cfg k) n) a0) (fun k => C105 k a0) h
theorem N105_0 (s0 : List UInt8) (l1 : List V) (i2 : Int) {r : V × List Ob} (h : Evt (fun k n => T105_0 (callN cfg k) (L105 (callN cfg k) n) s0 l1 i2) r) : Evt (fun k n => (L105 (callN cfg k) n) s0 l1 i2) r := evt_step (fun k n => rfl) h
def T106 (call : FuncId → Fun) (a0 : List UInt8) : Option (V × List Ob) :=
 Option.bind (call 115 [(V.str a0), (V.str [39]), (V.int .i64 3)] []) fun z0 =>
 if (decide (((length (getL z0.1) : Nat) : Int) < (3 : Int))) = true then
 some ((V.str a0), [])
 else
 chk (decide (0 ≤ (2 : Int))) (chk (decide ((2 : Int) < ((length (getL z0.1) : Nat) : Int))) (some ((V.str (getS (getD (getL z0.1) (Int.toNat (2 : Int)) V.bot))), [])))
def A106 (a0 : List UInt8) : List V := [V.str a0]
theorem E106 (a0 : List UInt8) : GO 106 Tryd.f106 (A106 a0) [] call icall again = T106 call a0 := by kernel_rfl
theorem C106 (k : Nat) (a0 : List UInt8) : callN cfg (k + 1) 106 (A106 a0) [] = T106 (callN cfg k) a0 :=
 (show callN cfg (k + 1) 106 (A106 a0) [] = GO 106 Tryd.f106 (A106 a0) [] (callN cfg k) (icallN cfg (callN cfg k) 20) (RN 106 Tryd.f106 [] (callN cfg k) (icallN cfg (callN cfg k) 20) k) by kernel_rfl).trans (E106 _ _ _ a0)
theorem M106 (a0 : List UInt8) {r : V × List Ob} (h : Evt (fun k n => T106 (callN cfg k) a0) r) : Ret 106 [V.str a0] [] r := ret_mk (g := fun k n => T106 (callN cfg k) a0) (fun k => C106 k a0) h
def T107_0 (call : FuncId → Fun) (ag0 : List V → List UInt8 → List UInt8 → Int → Option (V × List Ob)) (l0 : List V) (s1 : List UInt8) (s2 : List UInt8) (i3 : Int) : Option (V × List Ob) :=
 chk (catOk s1 [42]) (Option.bind (call 116 [(V.int .i64 i3)] []) fun z0 =>
 chk (catOk (s1 ++ [42]) (getS z0.1)) (Option.bind (call 104 [(V.lst 116 false l0), (V.str ((s1 ++ [42]) ++ (getS z0.1)))] []) fun z1 =>
 if (!(getB (headD (tail (getT z1.1)) V.bot))) = true then
 chk (catOk ((s1 ++ [42]) ++ (getS z0.1)) [42]) (Option.bind (call 104 [(V.lst 116 false l0), (V.str (((s1 ++ [42]) ++ (getS z0.1)) ++ [42]))] []) fun z2 =>
 if (!(getB (headD (tail (getT z2.1)) V.bot))) = true then
 some ((V.tup [(V.str s2), (V.bool (decide (i3 > (0 : Int))))]), [])
 else
 if (i3 == (0 : Int)) = true then
 Option.bind (call 106 [(V.str (getS (headD (getT z2.1) V.bot)))] []) fun z3 =>
 Option.bind (call 105 [(V.str (getS z3.1))] []) fun z4 =>
 chk (catOk s2 (getS z4.1)) ((ag0 (l0) (s1) ((s2 ++ (getS z4.1))) ((IntKind.wrap .i64 (i3 + (1 : Int))))))
 else
 Option.bind (call 105 [(V.str (getS (headD (getT z2.1) V.bot)))] []) fun z3 =>
 chk (catOk s2 (getS z3.1)) ((ag0 (l0) (s1) ((s2 ++ (getS z3.1))) ((IntKind.wrap .i64 (i3 + (1 : Int)))))))
 else
 chk (catOk s2 (getS (headD (getT z1.1) V.bot))) ((ag0 (l0) (s1) ((s2 ++ (getS (headD (getT z1.1) V.bot)))) ((IntKind.wrap .i64 (i3 + (1 : Int))))))))
def T107 (call : FuncId → Fun) (ag0 : List V → List UInt8 → List UInt8 → Int → Option (V × List Ob)) (a0 : List V) (a1 : List UInt8) : Option (V × List Ob) :=
 (ag0 (a0) (a1) ([]) ((0 : Int)))
def A107 (a0 : List V) (a1 : List UInt8) : List V := [V.lst 116 false a0, V.str a1]
def K107_0 (l0 : List V) (s1 : List UInt8) (s2 : List UInt8) (i3 : Int) : St := ⟨[(V.lst 116 false l0), (V.str s1), V.bot, V.bot, V.bot, V.bot, (V.str s2), (V.int IntKind.i64 i3)] ++ List.replicate 39 V.bot, []⟩
theorem S107_0 (l0 : List V) (s1 : List UInt8) (s2 : List UInt8) (i3 : Int) :
 RM 107 Tryd.f107 [] call icall again (tdOf Tryd.f107 0) (K107_0 l0 s1 s2 i3) = T107_0 call (fun l0 s1 s2 i3 => again (tdOf Tryd.f107 0) (K107_0 l0 s1 s2 i3)) l0 s1 s2 i3 := by kernel_rfl
theorem E107 (a0 : List V) (a1 : List UInt8) : GO 107 Tryd.f107 (A107 a0 a1) [] call icall again = T107 call (fun l0 s1 s2 i3 => again (tdOf Tryd.f107 0) (K107_0 l0 s1 s2 i3)) a0 a1 := by kernel_rfl
def L107 (call : FuncId → Fun) : Nat → (List V → List UInt8 → List UInt8 → Int → Option (V × List Ob))
 | 0 => fun _ _ _ _ => none
 | n + 1 => T107_0 call (L107 call n)
theorem R107 (call : FuncId → Fun) (icall : ICall (V × List Ob)) : ∀ n, (∀ (l0 : List V) (s1 : List UInt8) (s2 : List UInt8) (i3 : Int), RN 107 Tryd.f107 [] call icall n (tdOf Tryd.f107 0) (K107_0 l0 s1 s2 i3) = (L107 call n) l0 s1 s2 i3)
  | 0 => fun l0 s1 s2 i3 => rfl
  | n + 1 => by
    have ih := R107 call icall n
    exact fun l0 s1 s2 i3 => (S107_0 call icall (RN 107 Tryd.f107 [] call icall n) l0 s1 s2 i3).trans (by rw [show (fun l0 s1 s2 i3 => RN 107 Tryd.f107 [] call icall n (tdOf Tryd.f107 0) (K107_0 l0 s1 s2 i3)) = (L107 call n) from (funext fun l0 => funext fun s1 => funext fun s2 => funext fun i3 => ih l0 s1 s2 i3)]; rfl)
theorem C107 (k : Nat) (a0 : List V) (a1 : List UInt8) : callN cfg (k + 1) 107 (A107 a0 a1) [] = T107 (callN cfg k) (L107 (callN cfg k) k) a0 a1 := by
 have ih := R107 (callN cfg k) (icallN cfg (callN cfg k) 20) k
 refine (show callN cfg (k + 1) 107 (A107 a0 a1) [] = GO 107 Tryd.f107 (A107 a0 a1) [] (callN cfg k) (icallN cfg (callN cfg k) 20) (RN 107 Tryd.f107 [] (callN cfg k) (icallN cfg (callN cfg k) 20) k) by kernel_rfl).trans ((E107 _ _ _ a0 a1).trans ?_)
 rw [show (fun l0 s1 s2 i3 => RN 107 Tryd.f107 [] (callN cfg k) (icallN cfg (callN cfg k) 20) k (tdOf Tryd.f107 0) (K107_0 l0 s1 s2 i3)) = (L107 (callN cfg k) k) from (funext fun l0 => funext fun s1 => funext fun s2 => funext fun i3 => ih l0 s1 s2 i3)]
theorem M107 (a0 : List V) (a1 : List UInt8) {r : V × List Ob} (h : Evt (fun k n => T107 (callN cfg k) (L107 (callN cfg k) n) a0 a1) r) : Ret 107 [V.lst 116 false a0, V.str a1] [] r := ret_mk (g := fun k n => T107 (callN cfg k) (L107 (callN cfg k) n) a0 a1) (fun k => C107 k a0 a1) h
theorem N107_0 (l0 : List V) (s1 : List UInt8) (s2 : List UInt8) (i3 : Int) {r : V × List Ob} (h : Evt (fun k n => T107_0 (callN cfg k) (L107 (callN cfg k) n) l0 s1 s2 i3) r) : Evt (fun k n => (L107 (callN cfg k) n) l0 s1 s2 i3) r := evt_step (fun k n => rfl) h
def T111_0 (call : FuncId → Fun) (ag0 : Int → List UInt8 → Int → Option (V × List Ob)) (i0 : Int) (s1 : List UInt8) (p2 : Int) : Option (V × List Ob) :=
 if Int.toNat p2 < length s1 then
 if ((((Utf8.decode ⟨List.toArray s1⟩ (Int.toNat p2)).1 : Nat) : Int) == (IntKind.wrap IntKind.i32 i0)) = true then
 some ((V.bool true), [])
 else
 (ag0 (i0) (s1) (((Int.toNat p2 + (Utf8.decode ⟨List.toArray s1⟩ (Int.toNat p2)).2 : Nat) : Int)))
 else
 some ((V.bool false), [])
def T111 (call : FuncId → Fun) (ag0 : Int → List UInt8 → Int → Option (V × List Ob)) (a0 : List UInt8) (a1 : Int) : Option (V × List Ob) :=
 (ag0 (a1) (a0) ((0 : Int)))
def A111 (a0 : List UInt8) (a1 : Int) : List V := [V.str a0, V.int IntKind.u8 a1]
def K111_0 (i0 : Int) (s1 : List UInt8) (p2 : Int) : St := ⟨[V.bot, (V.int IntKind.u8 i0), V.bot, V.bot, V.bot, V.bot, V.bot, V.bot, (V.ref 0 0)] ++ List.replicate 7 V.bot, [(Ob.sit s1 p2)]⟩
theorem S111_0 (i0 : Int) (s1 : List UInt8) (p2 : Int) :
 RM 111 Tryd.f111 [] call icall again (tdOf Tryd.f111 0) (K111_0 i0 s1 p2) = T111_0 call (fun i0 s1 p2 => again (tdOf Tryd.f111 0) (K111_0 i0 s1 p2)) i0 s1 p2 := by kernel_rfl
theorem E111 (a0 : List UInt8) (a1 : Int) : GO 111 Tryd.f111 (A111 a0 a1) [] call icall again = T111 call (fun i0 s1 p2 => again (tdOf Tryd.f111 0) (K111_0 i0 s1 p2)) a0 a1 := by kernel_rfl
def L111 (call : FuncId → Fun) : Nat → (Int → List UInt8 → Int → Option (V × List Ob))
 | 0 => fun _ _ _ => none
 | n + 1 => T111_0 call (L111 call n)
theorem R111 (call : FuncId → Fun) (icall : ICall (V × List Ob)) : ∀ n, (∀ (i0 : Int) (s1 : List UInt8) (p2 : Int), RN 111 Tryd.f111 [] call icall n (tdOf Tryd.f111 0) (K111_0 i0 s1 p2) = (L111 call n) i0 s1 p2)
  | 0 => fun i0 s1 p2 => rfl
  | n + 1 => by
    have ih := R111 call icall n
    exact fun i0 s1 p2 => (S111_0 call icall (RN 111 Tryd.f111 [] call icall n) i0 s1 p2).trans (by rw [show (fun i0 s1 p2 => RN 111 Tryd.f111 [] call icall n (tdOf Tryd.f111 0) (K111_0 i0 s1 p2)) = (L111 call n) from (funext fun i0 => funext fun s1 => funext fun p2 => ih i0 s1 p2)]; rfl)
theorem C111 (k : Nat) (a0 : List UInt8) (a1 : Int) : callN cfg (k + 1) 111 (A111 a0 a1) [] = T111 (callN cfg k) (L111 (callN cfg k) k) a0 a1 := by
 have ih := R111 (callN cfg k) (icallN cfg (callN cfg k) 20) k
 refine (show callN cfg (k + 1) 111 (A111 a0 a1) [] = GO 111 Tryd.f111 (A111 a0 a1) [] (callN cfg k) (icallN cfg (callN cfg k) 20) (RN 111 Tryd.f111 [] (callN cfg k) (icallN cfg (callN cfg k) 20) k) by kernel_rfl).trans ((E111 _ _ _ a0 a1).trans ?_)
 rw [show (fun i0 s1 p2 => RN 111 Tryd.f111 [] (callN cfg k) (icallN cfg (callN cfg k) 20) k (tdOf Tryd.f111 0) (K111_0 i0 s1 p2)) = (L111 (callN cfg k) k) from (funext fun i0 => funext fun s1 => funext fun p2 => ih i0 s1 p2)]
theorem M111 (a0 : List UInt8) (a1 : Int) {r : V × List Ob} (h : Evt (fun k n => T111 (callN cfg k) (L111 (callN cfg k) n) a0 a1) r) : Ret 111 [V.str a0, V.int IntKind.u8 a1] [] r := ret_mk (g := fun k n => T111 (callN cfg k) (L111 (callN cfg k) n) a0 a1) (fun k => C111 k a0 a1) h
theorem N111_0 (i0 : Int) (s1 : List UInt8) (p2 : Int) {r : V × List Ob} (h : Evt (fun k n => T111_0 (callN cfg k) (L111 (callN cfg k) n) i0 s1 p2) r) : Evt (fun k n => (L111 (callN cfg k) n) i0 s1 p2) r := evt_step (fun k n => rfl) h
def T112_0 (call : FuncId → Fun) (ag0 : List V → Int → List UInt8 → Option (V × List Ob)) (l0 : List V) (i1 : Int) (s2 : List UInt8) : Option (V × List Ob) :=
 if (decide (i1 < ((length s2 : Nat) : Int))) = true then
 chk (decide (0 ≤ i1)) (chk (decide (i1 < ((length s2 : Nat) : Int))) (if (((UInt8.toNat (getD s2 (Int.toNat i1) 0) : Nat) : Int) == (34 : Int)) = true then
 chk (decide (0 ≤ (IntKind.wrap .i64 (i1 + (1 : Int))))) (chk (decide ((IntKind.wrap .i64 (i1 + (1 : Int))) ≤ ((length s2 : Nat) : Int))) (some ((V.tup [(V.str (bytesOf l0)), (V.bool true)]), [(Ob.cells [(V.str (drop (Int.toNat (IntKind.wrap .i64 (i1 + (1 : Int)))) s2))])])))
 else
 if (((UInt8.toNat (getD s2 (Int.toNat i1) 0) : Nat) : Int) == (92 : Int)) = true then
 if (decide ((IntKind.wrap .i64 (i1 + (1 : Int))) < ((length s2 : Nat) : Int))) = true then
 chk (decide (0 ≤ (IntKind.wrap .i64 (i1 + (1 : Int))))) (chk (decide ((IntKind.wrap .i64 (i1 + (1 : Int))) < ((length s2 : Nat) : Int))) (chk (appOk l0 [(V.int .u8 ((UInt8.toNat (getD s2 (Int.toNat (IntKind.wrap .i64 (i1 + (1 : Int)))) 0) : Nat) : Int))] 2) ((ag0 ((l0 ++ [(V.int .u8 ((UInt8.toNat (getD s2 (Int.toNat (IntKind.wrap .i64 (i1 + (1 : Int)))) 0) : Nat) : Int))])) ((IntKind.wrap .i64 ((IntKind.wrap .i64 (i1 + (1 : Int))) + (1 : Int)))) (s2)))))
 else
 (ag0 (l0) ((IntKind.wrap .i64 ((IntKind.wrap .i64 (i1 + (1 : Int))) + (1 : Int)))) (s2))
 else
 chk (appOk l0 [(V.int .u8 ((UInt8.toNat (getD s2 (Int.toNat i1) 0) : Nat) : Int))] 2) ((ag0 ((l0 ++ [(V.int .u8 ((UInt8.toNat (getD s2 (Int.toNat i1) 0) : Nat) : Int))])) ((IntKind.wrap .i64 (i1 + (1 : Int)))) (s2)))))
 else
 some ((V.tup [(V.str []), (V.bool false)]), [(Ob.cells [(V.str s2)])])
def T112 (call : FuncId → Fun) (ag0 : List V → Int → List UInt8 → Option (V × List Ob)) (a0 : List UInt8) : Option (V × List Ob) :=
 (ag0 ([]) ((1 : Int)) (a0))
def O112 (a0 : List UInt8) : List Ob := [Ob.cells [V.str a0]]
def A112 : List V := [V.agg [V.ref 0 0]]
def K112_0 (l0 : List V) (i1 : Int) (s2 : List UInt8) : St := ⟨[V.bot, (V.ref 1 0), V.bot, V.bot, (V.lst 5 true l0), (V.int IntKind.i64 i1)] ++ List.replicate 61 V.bot, [(Ob.cells [(V.str s2)]), (Ob.cells [(V.ref 0 0)])]⟩
theorem S112_0 (a0 : List UInt8) (l0 : List V) (i1 : Int) (s2 : List UInt8) :
 RM 112 Tryd.f112 (O112 a0) call icall again (tdOf Tryd.f112 0) (K112_0 l0 i1 s2) = T112_0 call (fun l0 i1 s2 => again (tdOf Tryd.f112 0) (K112_0 l0 i1 s2)) l0 i1 s2 := by kernel_rfl
theorem E112 (a0 : List UInt8) : GO 112 Tryd.f112 A112 (O112 a0) call icall again = T112 call (fun l0 i1 s2 => again (tdOf Tryd.f112 0) (K112_0 l0 i1 s2)) a0 := by kernel_rfl
def L112 (call : FuncId → Fun) : Nat → (List V → Int → List UInt8 → Option (V × List Ob))
 | 0 => fun _ _ _ => none
 | n + 1 => T112_0 call (L112 call n)
theorem R112 (call : FuncId → Fun) (icall : ICall (V × List Ob)) (a0 : List UInt8) : ∀ n, (∀ (l0 : List V) (i1 : Int) (s2 : List UInt8), RN 112 Tryd.f112 (O112 a0) call icall n (tdOf Tryd.f112 0) (K112_0 l0 i1 s2) = (L112 call n) l0 i1 s2)
  | 0 => fun l0 i1 s2 => rfl
  | n + 1 => by
    have ih := R112 call icall a0 n
    exact fun l0 i1 s2 => (S112_0 call icall (RN 112 Tryd.f112 (O112 a0) call icall n) a0 l0 i1 s2).trans (by rw [show (fun l0 i1 s2 => RN 112 Tryd.f112 (O112 a0) call icall n (tdOf Tryd.f112 0) (K112_0 l0 i1 s2)) = (L112 call n) from (funext fun l0 => funext fun i1 => funext fun s2 => ih l0 i1 s2)]; rfl)
theorem C112 (k : Nat) (a0 : List UInt8) : callN cfg (k + 1) 112 A112 (O112 a0) = T112 (callN cfg k) (L112 (callN cfg k) k) a0 := by
 have ih := R112 (callN cfg k) (icallN cfg (callN cfg k) 20) a0 k
 refine (show callN cfg (k + 1) 112 A112 (O112 a0) = GO 112 Tryd.f112 A112 (O112 a0) (callN cfg k) (icallN cfg (callN cfg k) 20) (RN 112 Tryd.f112 (O112 a0) (callN cfg k) (icallN cfg (callN cfg k) 20) k) by kernel_rfl).trans ((E112 _ _ _ a0).trans ?_)
 rw [show (fun l0 i1 s2 => RN 112 Tryd.f112 (O112 a0) (callN cfg k) (icallN cfg (callN cfg k) 20) k (tdOf Tryd.f112 0) (K112_0 l0 i1 s2)) = (L112 (callN cfg k) k) from (funext fun l0 => funext fun i1 => funext fun s2 => ih l0 i1 s2)]
theorem M112 (a0 : List UInt8) {r : V × List Ob} (h : Evt (fun k n => T112 (callN cfg k) (L112 (callN cfg k) n) a0) r) : Ret 112 [V.agg [V.ref 0 0]] [Ob.cells [V.str a0]] r := ret_mk (g := fun k n => T112 (callN cfg k) (L112 (callN cfg k) n) a0) (fun k => C112 k a0) h
theorem N112_0 (l0 : List V) (i1 : Int) (s2 : List UInt8) {r : V × List Ob} (h : Evt (fun k n => T112_0 (callN cfg k) (L112 (callN cfg k) n) l0 i1 s2) r) : Evt (fun k n => (L112 (callN cfg k) n) l0 i1 s2) r := evt_step (fun k n => rfl) h
def T114 (call : FuncId → Fun) (a0 : Int) : Option (V × List Ob) :=
 Option.bind (call 90 [(V.int .u8 a0)] []) fun z0 =>
 Option.bind (if (decide ((getI z0.1) ≥ (48 : Int))) = true then
 some (decide ((getI z0.1) ≤ (57 : Int)))
 else
 some false) fun y1 =>
 if y1 = true then
 some ((V.tup [(V.int .u8 (IntKind.wrap .u8 ((getI z0.1) - (48 : Int)))), (V.bool true)]), [])
 else
 Option.bind (if (decide ((getI z0.1) ≥ (97 : Int))) = true then
 some (decide ((getI z0.1) ≤ (102 : Int)))
 else
 some false) fun y2 =>
 if y2 = true then
 some ((V.tup [(V.int .u8 (IntKind.wrap .u8 ((IntKind.wrap .u8 ((getI z0.1) - (97 : Int))) + (10 : Int)))), (V.bool true)]), [])
 else
 some ((V.tup [(V.int .u8 0), (V.bool false)]), [])
def A114 (a0 : Int) : List V := [V.int IntKind.u8 a0]
theorem E114 (a0 : Int) : GO 114 Tryd.f114 (A114 a0) [] call icall again = T114 call a0 := by kernel_rfl
theorem C114 (k : Nat) (a0 : Int) : callN cfg (k + 1) 114 (A114 a0) [] = T114 (callN cfg k) a0 :=
 (show callN cfg (k + 1) 114 (A114 a0) [] = GO 114 Tryd.f114 (A114 a0) [] (callN cfg k) (icallN cfg (callN cfg k) 20) (RN 114 Tryd.f114 [] (callN cfg k) (icallN cfg (callN cfg k) 20) k) by kernel_rfl).trans (E114 _ _ _ a0)
theorem M114 (a0 : Int) {r : V × List Ob} (h : Evt (fun k n => T114 (callN cfg k) a0) r) : Ret 114 [V.int IntKind.u8 a0] [] r := ret_mk (g := fun k n => T114 (callN cfg k) a0) (fun k => C114 k a0) h
def T116_0 (call : FuncId → Fun) (ag0 : Int → List UInt8 → Bool → Option (V × List Ob)) (i0 : Int) (s1 : List UInt8) (b2 : Bool) : Option (V × List Ob) :=
 if (i0 != (0 : Int)) = true then
 chk ((10 : Int) != 0) (chk (catOk ((Utf8.encode (IntKind.wrap IntKind.i32 (IntKind.wrap .i64 ((48 : Int) + (if (IntKind.wrap .i64 ((0 : Int) - (Int.tmod i0 (10 : Int)))) > (Int.tmod i0 (10 : Int)) then (IntKind.wrap .i64 ((0 : Int) - (Int.tmod i0 (10 : Int)))) else (Int.tmod i0 (10 : Int))))))).data.toList) s1) (chk ((10 : Int) != 0) ((ag0 ((IntKind.wrap .i64 (Int.tdiv i0 (10 : Int)))) ((((Utf8.encode (IntKind.wrap IntKind.i32 (IntKind.wrap .i64 ((48 : Int) + (if (IntKind.wrap .i64 ((0 : Int) - (Int.tmod i0 (10 : Int)))) > (Int.tmod i0 (10 : Int)) then (IntKind.wrap .i64 ((0 : Int) - (Int.tmod i0 (10 : Int)))) else (Int.tmod i0 (10 : Int))))))).data.toList) ++ s1)) (b2)))))
 else
 if b2 = true then
 chk (catOk [45] s1) (some ((V.str ([45] ++ s1)), []))
 else
 some ((V.str s1), [])
def T116 (call : FuncId → Fun) (ag0 : Int → List UInt8 → Bool → Option (V × List Ob)) (a0 : Int) : Option (V × List Ob) :=
 if (a0 == (0 : Int)) = true then
 some ((V.str [48]), [])
 else
 (ag0 (a0) ([]) ((decide (a0 < (0 : Int)))))
def A116 (a0 : Int) : List V := [V.int IntKind.i64 a0]
def K116_0 (i0 : Int) (s1 : List UInt8) (b2 : Bool) : St := ⟨[(V.int IntKind.i64 i0), V.bot, V.bot, (V.str s1), (V.bool b2)] ++ List.replicate 24 V.bot, []⟩
theorem S116_0 (i0 : Int) (s1 : List UInt8) (b2 : Bool) :
 RM 116 Tryd.f116 [] call icall again (tdOf Tryd.f116 0) (K116_0 i0 s1 b2) = T116_0 call (fun i0 s1 b2 => again (tdOf Tryd.f116 0) (K116_0 i0 s1 b2)) i0 s1 b2 := by kernel_rfl
theorem E116 (a0 : Int) : GO 116 Tryd.f116 (A116 a0) [] call icall again = T116 call (fun i0 s1 b2 => again (tdOf Tryd.f116 0) (K116_0 i0 s1 b2)) a0 := by kernel_rfl
def L116 (call : FuncId → Fun) : Nat → (Int → List UInt8 → Bool → Option (V × List Ob))
 | 0 => fun _ _ _ => none
 | n + 1 => T116_0 call (L116 call n)
theorem R116 (call : FuncId → Fun) (icall : ICall (V × List Ob)) : ∀ n, (∀ (i0 : Int) (s1 : List UInt8) (b2 : Bool), RN 116 Tryd.f116 [] call icall n (tdOf Tryd.f116 0) (K116_0 i0 s1 b2) = (L116 call n) i0 s1 b2)
  | 0 => fun i0 s1 b2 => rfl
  | n + 1 => by
    have ih := R116 call icall n
    exact fun i0 s1 b2 => (S116_0 call icall (RN 116 Tryd.f116 [] call icall n) i0 s1 b2).trans (by rw [show (fun i0 s1 b2 => RN 116 Tryd.f116 [] call icall n (tdOf Tryd.f116 0) (K116_0 i0 s1 b2)) = (L116 call n) from (funext fun i0 => funext fun s1 => funext fun b2 => ih i0 s1 b2)]; rfl)
theorem C116 (k : Nat) (a0 : Int) : callN cfg (k + 1) 116 (A116 a0) [] = T116 (callN cfg k) (L116 (callN cfg k) k) a0 := by
 have ih := R116 (callN cfg k) (icallN cfg (callN cfg k) 20) k
 refine (show callN cfg (k + 1) 116 (A116 a0) [] = GO 116 Tryd.f116 (A116 a0) [] (callN cfg k) (icallN cfg (callN cfg k) 20) (RN 116 Tryd.f116 [] (callN cfg k) (icallN cfg (callN cfg k) 20) k) by kernel_rfl).trans ((E116 _ _ _ a0).trans ?_)
 rw [show (fun i0 s1 b2 => RN 116 Tryd.f116 [] (callN cfg k) (icallN cfg (callN cfg k) 20) k (tdOf Tryd.f116 0) (K116_0 i0 s1 b2)) = (L116 (callN cfg k) k) from (funext fun i0 => funext fun s1 => funext fun b2 => ih i0 s1 b2)]
theorem M116 (a0 : Int) {r : V × List Ob} (h : Evt (fun k n => T116 (callN cfg k) (L116 (callN cfg k) n) a0) r) : Ret 116 [V.int IntKind.i64 a0] [] r := ret_mk (g := fun k n => T116 (callN cfg k) (L116 (callN cfg k) n) a0) (fun k => C116 k a0) h
theorem N116_0 (i0 : Int) (s1 : List UInt8) (b2 : Bool) {r : V × List Ob} (h : Evt (fun k n => T116_0 (callN cfg k) (L116 (callN cfg k) n) i0 s1 b2) r) : Evt (fun k n => (L116 (callN cfg k) n) i0 s1 b2) r := evt_step (fun k n => rfl) h
def T87_0 (call : FuncId → Fun) (ag0 : List UInt8 → Option (V × List Ob)) (ag1 : List UInt8 → Option (V × List Ob)) (s0 : List UInt8) : Option (V × List Ob) :=
 if (decide (((length s0 : Nat) : Int) > (0 : Int))) = true then
 chk (decide (0 ≤ (0 : Int))) (chk (decide ((0 : Int) < ((length s0 : Nat) : Int))) (Option.bind (call 78 [(V.int .u8 ((UInt8.toNat (getD s0 (Int.toNat (0 : Int)) 0) : Nat) : Int))] []) fun z0 =>
 if (getB z0.1) = true then
 chk (decide (0 ≤ (1 : Int))) (chk (decide ((1 : Int) ≤ ((length s0 : Nat) : Int))) ((ag0 ((drop (Int.toNat (1 : Int)) s0)))))
 else
 (ag1 (s0))))
 else
 (ag1 (s0))
def T87_1 (call : FuncId → Fun) (ag0 : List UInt8 → Option (V × List Ob)) (ag1 : List UInt8 → Option (V × List Ob)) (s0 : List UInt8) : Option (V × List Ob) :=
 if (decide (((length s0 : Nat) : Int) > (0 : Int))) = true then
 chk (decide (0 ≤ (IntKind.wrap .i64 (((length s0 : Nat) : Int) - (1 : Int))))) (chk (decide ((IntKind.wrap .i64 (((length s0 : Nat) : Int) - (1 : Int))) < ((length s0 : Nat) : Int))) (Option.bind (call 78 [(V.int .u8 ((UInt8.toNat (getD s0 (Int.toNat (IntKind.wrap .i64 (((length s0 : Nat) : Int) - (1 : Int)))) 0) : Nat) : Int))] []) fun z0 =>
 if (getB z0.1) = true then
 chk (decide (0 ≤ (IntKind.wrap .i64 (((length s0 : Nat) : Int) - (1 : Int))))) (chk (decide ((IntKind.wrap .i64 (((length s0 : Nat) : Int) - (1 : Int))) ≤ ((length s0 : Nat) : Int))) (chk (decide (0 ≤ (0 : Int))) (chk (decide ((0 : Int) ≤ (IntKind.wrap .i64 (((length s0 : Nat) : Int) - (1 : Int))))) ((ag1 ((drop (Int.toNat (0 : Int)) (take (Int.toNat (IntKind.wrap .i64 (((length s0 : Nat) : Int) - (1 : Int)))) s0))))))))
 else
 some ((V.str s0), [])))
 else
 some ((V.str s0), [])
def T87 (call : FuncId → Fun) (ag0 : List UInt8 → Option (V × List Ob)) (ag1 : List UInt8 → Option (V × List Ob)) (a0 : List UInt8) : Option (V × List Ob) :=
 (ag0 (a0))
def A87 (a0 : List UInt8) : List V := [V.str a0]
def K87_0 (s0 : List UInt8) : St := ⟨[(V.str s0)] ++ List.replicate 29 V.bot, []⟩
def K87_1 (s0 : List UInt8) : St := ⟨[(V.str s0)] ++ List.replicate 29 V.bot, []⟩
theorem S87_0 (s0 : List UInt8) :
 RM 87 Tryd.f87 [] call icall again (tdOf Tryd.f87 0) (K87_0 s0) = T87_0 call (fun s0 => again (tdOf Tryd.f87 0) (K87_0 s0)) (fun s0 => again (tdOf Tryd.f87 1) (K87_1 s0)) s0 := by kernel_rfl
theorem S87_1 (s0 : List UInt8) :
 RM 87 Tryd.f87 [] call icall again (tdOf Tryd.f87 1) (K87_1 s0) = T87_1 call (fun s0 => again (tdOf Tryd.f87 0) (K87_0 s0)) (fun s0 => again (tdOf Tryd.f87 1) (K87_1 s0)) s0 := by kernel_rfl
theorem E87 (a0 : List UInt8) : GO 87 Tryd.f87 (A87 a0) [] call icall again = T87 call (fun s0 => again (tdOf Tryd.f87 0) (K87_0 s0)) (fun s0 => again (tdOf Tryd.f87 1) (K87_1 s0)) a0 := by kernel_rfl
def L87 (call : FuncId → Fun) : Nat → (List UInt8 → Option (V × List Ob)) × (List UInt8 → Option (V × List Ob))
 | 0 => ⟨fun _ => none, fun _ => none⟩
 | n + 1 => ⟨T87_0 call (L87 call n).1 (L87 call n).2, T87_1 call (L87 call n).1 (L87 call n).2⟩
theorem R87 (call : FuncId → Fun) (icall : ICall (V × List Ob)) : ∀ n, (∀ (s0 : List UInt8), RN 87 Tryd.f87 [] call icall n (tdOf Tryd.f87 0) (K87_0 s0) = (L87 call n).1 s0) ∧ (∀ (s0 : List UInt8), RN 87 Tryd.f87 [] call icall n (tdOf Tryd.f87 1) (K87_1 s0) = (L87 call n).2 s0)
  | 0 => ⟨fun s0 => rfl, fun s0 => rfl⟩
  | n + 1 => by
    have ih := R87 call icall n
    exact ⟨fun s0 => (S87_0 call icall (RN 87 Tryd.f87 [] call icall n) s0).trans (by rw [show (fun s0 => RN 87 Tryd.f87 [] call icall n (tdOf Tryd.f87 0) (K87_0 s0)) = (L87 call n).1 from (funext fun s0 => ih.1 s0), show (fun s0 => RN 87 Tryd.f87 [] call icall n (tdOf Tryd.f87 1) (K87_1 s0)) = (L87 call n).2 from (funext fun s0 => ih.2 s0)]; rfl),
      fun s0 => (S87_1 call icall (RN 87 Tryd.f87 [] call icall n) s0).trans (by rw [show (fun s0 => RN 87 Tryd.f87 [] call icall n (tdOf Tryd.f87 0) (K87_0 s0)) = (L87 call n).1 from (funext fun s0 => ih.1 s0), show (fun s0 => RN 87 Tryd.f87 [] call icall n (tdOf Tryd.f87 1) (K87_1 s0)) = (L87 call n).2 from (funext fun s0 => ih.2 s0)]; rfl)⟩
theorem C87 (k : Nat) (a0 : List UInt8) : callN cfg (k + 1) 87 (A87 a0) [] = T87 (callN cfg k) (L87 (callN cfg k) k).1 (L87 (callN cfg k) k).2 a0 := by
 have ih := R87 (callN cfg k) (icallN cfg (callN cfg k) 20) k
 refine (show callN cfg (k + 1) 87 (A87 a0) [] = GO 87 Tryd.f87 (A87 a0) [] (callN cfg k) (icallN cfg (callN cfg k) 20) (RN 87 Tryd.f87 [] (callN cfg k) (icallN cfg (callN cfg k) 20) k) by kernel_rfl).trans ((E87 _ _ _ a0).trans ?_)
 rw [show (fun s0 => RN 87 Tryd.f87 [] (callN cfg k) (icallN cfg (callN cfg k) 20) k (tdOf Tryd.f87 0) (K87_0 s0)) = (L87 (callN cfg k) k).1 from (funext fun s0 => ih.1 s0), show (fun s0 => RN 87 Tryd.f87 [] (callN cfg k) (icallN cfg (callN cfg k) 20) k (tdOf Tryd.f87 1) (K87_1 s0)) = (L87 (callN cfg k) k).2 from (funext fun s0 => ih.2 s0)]
theorem M87 (a0 : List UInt8) {r : V × List Ob} (h : Evt (fun k n => T87 (callN cfg k) (L87 (callN cfg k) n).1 (L87 (callN cfg k) n).2 a0) r) : Ret 87 [V.str a0] [] r := ret_mk (g := fun k n => T87 (callN cfg k) (L87 (callN cfg k) n).1 (L87 (callN cfg k) n).2 a0) (fun k => C87 k a0) h
theorem N87_0 (s0 : List UInt8) {r : V × List Ob} (h : Evt (fun k n => T87_0 (callN cfg k) (L87 (callN cfg k) n).1 (L87 (callN cfg k) n).2 s0) r) : Evt (fun k n => (L87 (callN cfg k) n).1 s0) r := evt_step (fun k n => rfl) h
theorem N87_1 (s0 : List UInt8) {r : V × List Ob} (h : Evt (fun k n => T87_1 (callN cfg k) (L87 (callN cfg k) n).1 (L87 (callN cfg k) n).2 s0) r) : Evt (fun k n => (L87 (callN cfg k) n).2 s0) r := evt_step (fun k n => rfl) h
end Go.Proofs.YtemgbdncidgoiaaDoor
end
