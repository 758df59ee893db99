/- FetchPieces: for every input that the row lets in, it returns true. -/
import Derived.Test.YtemgbdncidgoiaaDoorPkF
set_option linter.all false
set_option linter.unusedVariables false
set_option linter.unusedSimpArgs false
namespace Go.Proofs.YtemgbdncidgoiaaDoor.fetchPieces
open Go.ChangeShapes Go.WideShapes Go.ChangeAt Go.RowKit Go.Ev
open Go.ChangeMaps (open_string shut_string)

theorem fact (x0 : List UInt8) (x1 : Sp) (hx1 : BigOk x1) (x2 : Int) (hx2 : (0 : Int) ≤ x2 ∧ x2 < 65536) : ∃ k, callN cfg k 13 [.lst 5 false (ofBytes x0), specV x1, .int .u16 x2] [] = some (.bool true, []) := by
  obtain ⟨K, h⟩ := ret13 x0 x1 hx1 x2 hx2
  exact ⟨K, h K (Nat.le_refl _)⟩

theorem walk (W : World) (x0 : List UInt8) (vx0 : Value) (rx0 : Rep cfg W (sizes W) [] (.lst 5 false (ofBytes x0)) vx0) (x1 : Sp) (hx1 : BigOk x1) (vx1 : Value) (rx1 : Rep cfg W (sizes W) [] (specV x1) vx1) (x2 : Int) (hx2 : (0 : Int) ≤ x2 ∧ x2 < 65536) :
    Calls Tryd.prog 13 #[vx0, vx1, .int .u16 x2] W fun e w' => e = .returned (.bool true) ∧ Kept W w' := by
  obtain ⟨k, hk⟩ := fact x0 x1 hx1 x2 hx2
  refine law_of cfg_ok hand_ok hk (fn := Tryd.f13) rfl rfl (cargs := [vx0, vx1, .int .u16 x2]) rfl (fun i v x hv hx => ?_) (fun v hv => ?_)
  · match i with
    | 0 => simp at hv hx; subst hv; subst hx; exact rx0
    | 1 => simp at hv hx; subst hv; subst hx; exact rx1
    | 2 => simp at hv hx; subst hv; subst hx; exact .int _ _
    | i + 3 => simp at hv
  · simp at hv
    rcases hv with rfl | rfl | rfl <;> rfl

set_option maxRecDepth 100000 in
theorem contract (H : Type) (enc : TypeId × Value → H) (W : World) (base : Nat) (args : Array Value) (ds gs : List (DataW H)) (before : List MemPlace)
    (hval : ∀ (j : Nat) t v, Tryd.f13.params[j]? = some t → args[j]? = some v → Value.okWide Tryd.prog W .any base t v)
    (hW : DataW.Whole enc Tryd.prog Tryd.f13.params.toList Rows.fetchPiecesSpec.vars false W args.toList ds gs before) (vt : List TypeId) (hz : (DataW.weightsEach Tryd.prog (Tryd.f13.params.toList ++ vt) (ds ++ gs)).all (· ≤ reachBytes) = true) :
    Calls Tryd.prog 13 args W fun e W' => ∃ v, e = .returned v ∧ Rows.fetchPiecesSpec.post enc Tryd.prog Tryd.f13 false true false false W args v W' := by
  have hW' := hW
  obtain ⟨p, q, hA0, hV, rfl, hfz, hnd⟩ := hW
  have hA : DataW.TrodAll enc Tryd.prog W 0 (fun _ => true) true Tryd.f13.params.toList args.toList ds p := hA0
  rw [Tryd.params13] at hA hval hz
  obtain ⟨v0, vs0, d0, ds0, p0, q0, hargs0, rfl, rfl, h0, r0⟩ := trodAll_cons hA
  obtain ⟨v1, vs1, d1, ds1, p1, q1, hargs1, rfl, rfl, h1, r1⟩ := trodAll_cons r0
  obtain ⟨v2, vs2, d2, ds2, p2, q2, hargs2, rfl, rfl, h2, r2⟩ := trodAll_cons r1
  obtain ⟨rfl, rfl, rfl⟩ := trodAll_nil r2
  obtain rfl : args = #[v0, v1, v2] := by cases args; simp_all
  obtain ⟨rfl, rfl⟩ := trodVars_none hV
  obtain ⟨x0, hrep0, hback0⟩ := bytes_in (hval 0 32 v0 rfl rfl) h0
  have hw1 : ∀ n ∈ d1.weights Tryd.prog 60, n ≤ reachBytes := fun n hn => by
    have := List.all_eq_true.1 hz n (DataW.weights_mem_each (j := 1) (t := 60) (d := d1) rfl rfl n hn)
    simpa using this
  obtain ⟨x1, hx1, hrep1, hback1⟩ := spec_in (hval 1 60 v1 rfl rfl) h1 hw1
  obtain ⟨x2, rfl, rfl, rfl, hw2⟩ := open_int Tryd.underlying35 (hval 2 35 v2 rfl rfl) h2
  have hb2 := bounds_u16 hw2
  clear hA0
  simp only [List.append_nil] at hW'
  refine (walk W x0 v0 hrep0 x1 hx1 v1 hrep1 x2 (by omega)).mono fun e W' ⟨he, hg⟩ => ?_
  subst he
  refine ⟨_, rfl, post_of_kept (pa := p0 ++ p1) (pv := []) hW' (fun _ _ _ => trodAll_cons_mk (shut_bool Tryd.underlying4 _) trodAll_mk0) (fun sp hsp => ?_) (fun _ _ => rfl) (by simp)
    hg (ok_one (by kernel_rfl) rfl (okWide_bool_mk Tryd.underlying4 _))⟩
  have := trodAll_cons_mk (hback0 W' hg sp fun x hx => hsp x (by simp [hx])) (trodAll_cons_mk (hback1 W' hg sp fun x hx => hsp x (by simp [hx])) (trodAll_cons_mk (shut_int (enc := enc) (w := W') (base := 0) (spare := sp) (held := true) Tryd.underlying35 hw2) trodAll_mk0))
  simp only [List.append_nil, List.nil_append] at this
  exact this

theorem laid_met (os : Os) : laidMet Tryd.prog Rows.fetchPiecesRow.laid ((laidWorld os).forCall (fun _ _ => 0) ⟨#[], #[.slice none 0 0, .agg #[.slice none 0 0, .int .i64 0, .slice none 0 0, .bool false, .int .i64 0, .int .i64 0], .int .u16 0], []⟩).memory :=
  laidMet_of_run' 8 (by kernel_rfl) (by kernel_rfl)
theorem reads (os : Os) {H : Type} (enc : TypeId × Value → H) : ∃ places, DataW.whole enc Tryd.prog ((laidWorld os).forCall (fun _ _ => 0) ⟨#[], #[.slice none 0 0, .agg #[.slice none 0 0, .int .i64 0, .slice none 0 0, .bool false, .int .i64 0, .int .i64 0], .int .u16 0], []⟩).memory Tryd.f13.params.toList Rows.fetchPiecesSpec.vars false #[Value.slice none 0 0, Value.agg #[.slice none 0 0, .int .i64 0, .slice none 0 0, .bool false, .int .i64 0, .int .i64 0], Value.int .u16 0].toList 8 = some ([.nil, .agg [.nil, .lit (.int .i64 0), .nil, .lit (.bool false), .lit (.int .i64 0), .lit (.int .i64 0)], .lit (.int .u16 0)], [], places) :=
  ⟨[], by kernel_rfl⟩

set_option maxRecDepth 100000 in
theorem lifted (os : Os) (started : os.Started) (H : Type) (enc : TypeId × Value → H) (F : Stop.Interp) :
    ReturnsInHanded {} Tryd.checked os 13 .any ((OpenSpec.ofChange Rows.fetchPiecesSpec).preRow enc Tryd.prog Tryd.f13 Rows.fetchPiecesRow.domain false Rows.fetchPiecesRow.laid) (((OpenSpec.ofChange Rows.fetchPiecesSpec).at F).post enc Tryd.prog Tryd.f13 false true false false) := by
  obtain ⟨places, hx⟩ := reads os enc
  refine returnsInHanded_of_row (C := Tryd.checked) (s := OpenSpec.ofChange Rows.fetchPiecesSpec) own started (by kernel_rfl) Tryd.func13
    (witness_row_at (enc := enc) (C := Tryd.checked) false (laidWorld os) #[.slice none 0 0, .agg #[.slice none 0 0, .int .i64 0, .slice none 0 0, .bool false, .int .i64 0, .int .i64 0], .int .u16 0] rfl (by kernel_rfl) (by kernel_rfl) (by kernel_rfl)
      (OpenSpec.preRow_of_cond 8 hx (by kernel_rfl) (fun k hk => by cases hk) (by kernel_rfl) (laid_met os))) ?_
  intro W base args ds gs before hval hW _ _ hz hL _ _
  exact contract H enc W base args ds gs before hval hW _ hz

theorem said : Rows.FetchPiecesSaid :=
  OpenClaim.holds_of_cond 13 Tryd.f13 rfl rfl rfl rfl rfl rfl rfl ⟨rfl, rfl, rfl, rfl, rfl⟩ rfl rfl rfl rfl rfl (by kernel_rfl) Tryd.func13 (by kernel_rfl)
    (of_decide_eq_true (by kernel_rfl)) (by unfold Func.isWrapper; first | (rw [if_pos (by decide +kernel)]; kernel_rfl) | (rw [if_neg (by decide +kernel)]; exact ⟨rfl, rfl⟩))
    (fun os started H enc _ F => by rw [OpenClaim.pre_eq_preRow]; exact lifted os started H enc F)

theorem plain (f : FuncId) (fn : Func) (hf : Tryd.pinned.checked.prog.funcNamed "letterbox/letterboxlaw16.FetchPieces" = some f) (hfn : Tryd.pinned.checked.prog.funcs[f]? = some fn) :
    false = Tryd.pinned.checked.prog.looks [] ∧ ∀ (j : Nat) t, fn.params[j]? = some t → Tryd.pinned.checked.prog.wantsStandIn t = false := by
  obtain rfl : f = 13 := Option.some.inj ((show Tryd.prog.funcNamed "letterbox/letterboxlaw16.FetchPieces" = some 13 by kernel_rfl).symm.trans hf) |>.symm
  obtain rfl : fn = Tryd.f13 := (Option.some.inj (Tryd.func13.symm.trans hfn)).symm
  refine ⟨by kernel_rfl, fun j t ht => ?_⟩
  rw [Tryd.params13] at ht
  obtain rfl | rfl | rfl : t = 32 ∨ t = 60 ∨ t = 35 := by simpa using Array.mem_of_getElem? ht
  · exact (show Tryd.prog.wantsStandIn 32 = false by kernel_rfl)
  · exact (show Tryd.prog.wantsStandIn 60 = false by kernel_rfl)
  · exact (show Tryd.prog.wantsStandIn 35 = false by kernel_rfl)

theorem card : Rows.FetchPiecesCardSaid :=
  Claim7.holds_tied_plain_at .later [] _ _ _ _ said (fun _ h => by cases h) (by kernel_rfl) (fun _ h => by cases h) fetchPieces_row_tie rfl ⟨rfl, rfl⟩ (by kernel_rfl) rfl plain (by kernel_rfl)
end Go.Proofs.YtemgbdncidgoiaaDoor.fetchPieces
