/- ParamsPieces: for every input that the row lets in, it returns true. -/
import Derived.Test.YtmhhcoccfojiiaaDoorSayL
import Derived.ChangeSlices
namespace Go.Proofs.YtmhhcoccfojiiaaDoor.paramsPieces
open Go.ChangeShapes Go.WideShapes Go.ChangeAt Go.RowKit Go.Ev
open Go.ChangeMaps (open_string shut_string)

theorem fact (vs : List UInt8) (t : UInt8) : ∃ k, callN cfg k 6 [.lst 5 false (ofBytes vs), .int .u8 (t.toNat : Nat)] [] = some (.bool true, []) := by
  obtain ⟨K, h⟩ := ret6 vs t
  exact ⟨K, h K (Nat.le_refl _)⟩

theorem walk (vs : List UInt8) (v : Value) (t : UInt8) (W : World) (hr : Rep cfg W (sizes W) [] (.lst 5 false (ofBytes vs)) v) :
    Calls Tryd.prog 6 #[v, .int .u8 (t.toNat : Nat)] W fun e w' => e = .returned (.bool true) ∧ Kept W w' := by
  obtain ⟨k, hk⟩ := fact vs t
  refine law_of cfg_ok hand_ok hk (fn := Tryd.f6) rfl rfl (cargs := [v, .int .u8 (t.toNat : Nat)]) rfl (fun i v x hv hx => ?_) (fun v hv => ?_)
  · match i with
    | 0 => simp at hv hx; subst hv; subst hx; exact hr
    | 1 => simp at hv hx; subst hv; subst hx; exact .int _ _
    | i + 2 => simp at hv
  · simp at hv
    rcases hv with rfl | rfl <;> rfl

theorem cells5 : Tryd.prog.cellsOf 5 = 1 := by kernel_rfl
theorem size5 : tySize cfg 5 = 1 := by kernel_rfl
theorem fits5 (n : Int) : fitsE cfg 5 (.int .u8 n) = true := by kernel_rfl
theorem flat_u8 (zs : List Int) : flat (zs.map (Value.int .u8)) = zs.map (Value.int .u8) := by
  induction zs with
  | nil => rfl
  | cons z zs ih => simp only [flat, List.map_cons, List.flatMap_cons, Value.cells] at ih ⊢; rw [ih]; rfl

/-- A slice of bytes that came in: the bytes; and that it reads as it did in any world that has kept all. -/
theorem bytes_in {H : Type} {enc : TypeId × Value → H} {W : World} {base : Nat} {v : Value} {d : DataW H} {p : List MemPlace} (hval : Value.okWide Tryd.prog W .any base 44 v)
    (h : DataW.Trod enc Tryd.prog W 0 (fun _ => true) true 44 v d p) :
    ∃ vs : List UInt8, Rep cfg W (sizes W) [] (.lst 5 false (ofBytes vs)) v ∧
      ∀ W', Kept W W' → ∀ sp : Nat → Bool, (∀ x ∈ p, sp x.block = true) → DataW.Trod enc Tryd.prog W' 0 sp true 44 v d p := by
  obtain ⟨a1, len, cap, rfl⟩ := okWide_slice Tryd.underlying44 hval
  obtain ⟨fuel, hf⟩ := h
  rcases open_ints Tryd.underlying44 Tryd.underlying5 cells5 hf with ⟨hcs, hx⟩ | ⟨a, len', cap', zs, hcs, _, hl, hm, hz, hx, hcell, hwz⟩
  · simp [Value.cells] at hcs
    obtain ⟨rfl, rfl, rfl⟩ := hcs
    simp only [Prod.mk.injEq] at hx
    obtain ⟨rfl, rfl⟩ := hx
    refine ⟨[], ?_, fun W' _ sp _ => shut_slice_nil Tryd.underlying44⟩
    exact Rep.lst 5 false [] none 0 [] rfl (fun i v x h => by simp at h) (fun v h => by cases h) (fun x h => by cases h) (by rw [size5]; omega) (Nat.le_refl _) (fun _ => rfl) (fun p h => by cases h)
  · simp [Value.cells] at hcs
    obtain ⟨rfl, rfl, rfl⟩ := hcs
    simp only [Prod.mk.injEq] at hx
    obtain ⟨rfl, rfl⟩ := hx
    simp only [if_true] at hz
    have hrng : ∀ n ∈ zs, 0 ≤ n ∧ n < 256 := fun n hn => by have := bounds_u8 (hwz n hn); omega
    refine ⟨(zs.take len).map fun n => UInt8.ofNat n.toNat, ?_, fun W' hk sp hsp => ?_⟩
    · have hxs : ofBytes ((zs.take len).map fun n => UInt8.ofNat n.toNat) = (zs.take len).map (V.int .u8) := by
        unfold ofBytes
        rw [List.map_map]
        refine List.map_congr_left fun n hn => ?_
        have := hrng n (List.mem_of_mem_take hn)
        simp only [Function.comp, UInt8.toNat_ofNat']
        congr 1
        omega
      have hlen : (ofBytes ((zs.take len).map fun n => UInt8.ofNat n.toNat)).length = len := by rw [hxs]; simp; omega
      have := Rep.lst (c := cfg) (w := W) (G := sizes W) (μ := []) 5 false (ofBytes ((zs.take len).map fun n => UInt8.ofNat n.toNat)) (some a) cap ((zs.take len).map (Value.int .u8)) (by rw [hlen]; simp; omega) (fun i v x hv hx => by
          rw [hxs] at hv
          obtain ⟨n, h1, rfl⟩ := get_map hv
          obtain ⟨n', h2, rfl⟩ := get_map hx
          rw [h1] at h2; cases h2
          exact .int _ _) (fun v hv => by
          rw [hxs] at hv
          obtain ⟨n, _, rfl⟩ := List.mem_map.1 hv
          exact fits5 n) (fun x hx => by
          obtain ⟨n, _, rfl⟩ := List.mem_map.1 hx
          rw [size5]; rfl) (by rw [size5]; omega) (by rw [hlen]; exact hl) (fun h => by cases h) (fun p hp hne => by
          cases hp
          have hl0 : 0 < len := by
            rcases Nat.eq_zero_or_pos len with h0 | h0
            · exact absurd (List.eq_nil_of_length_eq_zero (hlen.trans h0)) hne
            · exact h0
          obtain ⟨ab, ao, spot⟩ := a
          have hspot : spot = none := by simpa [Addr.add] using World.cell?_spot (hcell 0 (by omega))
          subst hspot
          refine ⟨rfl, ?_⟩
          rw [flat_u8]
          refine srow_sizes fun j x hj => ?_
          have hjl := (List.getElem?_eq_some_iff.1 hj).1
          rw [List.length_map, List.length_take] at hjl
          have hjl : j < len ∧ j < zs.length := by omega
          have hc := hcell j (by omega)
          rw [Addr.add_lit] at hc
          rw [hc]
          rw [List.getElem?_map, List.getElem?_take, if_pos hjl.1, List.getElem?_eq_getElem hjl.2] at hj
          simp at hj
          rw [← hj]; simp [List.getD, hjl.2])
      rw [hlen] at this
      exact this
    · have hzl : zs.length = (if sp a.block then cap else len) := by
        rcases Nat.eq_zero_or_pos zs.length with h0 | h0
        · split <;> omega
        · have : sp a.block = true := hsp (.cell a.block (a.off + 0)) (by simp only [MemPlace.row, List.mem_map, List.mem_range]; exact ⟨0, h0, rfl⟩)
          rw [if_pos this]; exact hz
      exact ⟨2, shut_ints 0 Tryd.underlying44 Tryd.underlying5 cells5 (Nat.zero_le _) hl hm hzl (fun i hi => hk.cell _ _ (hcell i hi)) hwz⟩

theorem contract (H : Type) (enc : TypeId × Value → H) (W : World) (base : Nat) (args : Array Value) (ds gs : List (DataW H)) (before : List MemPlace)
    (hval : ∀ (j : Nat) t v, Tryd.f6.params[j]? = some t → args[j]? = some v → Value.okWide Tryd.prog W .any base t v)
    (hW : DataW.Whole enc Tryd.prog Tryd.f6.params.toList Rows.paramsPiecesSpec.vars false W args.toList ds gs before) :
    Calls Tryd.prog 6 args W fun e W' => ∃ v, e = .returned v ∧ Rows.paramsPiecesSpec.post enc Tryd.prog Tryd.f6 false true false false W args v W' := by
  have hW' := hW
  obtain ⟨p, q, hA0, hV, rfl, hfz, hnd⟩ := hW
  have hA : DataW.TrodAll enc Tryd.prog W 0 (fun _ => true) true Tryd.f6.params.toList args.toList ds p := hA0
  rw [Tryd.params6] at hA hval
  obtain ⟨v0, vs0, d0, ds0, p0, q0, hargs, rfl, rfl, h0, r0⟩ := trodAll_cons hA
  obtain ⟨v1, vs1, d1, ds1, p1, q1, hargs1, rfl, rfl, h1, r1⟩ := trodAll_cons r0
  obtain ⟨rfl, rfl, rfl⟩ := trodAll_nil r1
  obtain rfl : args = #[v0, v1] := by cases args; simp_all
  obtain ⟨rfl, rfl⟩ := trodVars_none hV
  obtain ⟨vs, hrep, hback⟩ := bytes_in (hval 0 44 v0 rfl rfl) h0
  obtain ⟨n, rfl, rfl, rfl, hwn⟩ := open_int Tryd.underlying5 (hval 1 5 v1 rfl rfl) h1
  have hb := bounds_u8 hwn
  have hn : n = (((UInt8.ofNat n.toNat).toNat : Nat) : Int) := by simp only [UInt8.toNat_ofNat']; omega
  clear hA0
  simp only [List.append_nil] at hW'
  have hwalk := walk vs v0 (UInt8.ofNat n.toNat) W hrep
  rw [← hn] at hwalk
  refine hwalk.mono fun e W' ⟨he, hg⟩ => ?_
  subst he
  refine ⟨_, rfl, post_of_kept (pa := p0) (pv := []) hW' (fun _ _ _ => trodAll_cons_mk (shut_bool Tryd.underlying4 _) trodAll_mk0) (fun sp hsp => ?_) (fun _ _ => rfl) (by simp)
    hg (ok_one (by kernel_rfl) rfl (okWide_bool_mk Tryd.underlying4 _))⟩
  have := trodAll_cons_mk (hback W' hg sp hsp) (trodAll_cons_mk (shut_int (enc := enc) (w := W') (base := 0) (spare := sp) (held := true) Tryd.underlying5 hwn) trodAll_mk0)
  rw [List.append_nil, List.append_nil] at this
  exact this

theorem laid_met (os : Os) : laidMet Tryd.prog Rows.paramsPiecesRow.laid ((laidWorld os).forCall (fun _ _ => 0) ⟨#[], #[.slice none 0 0, .int .u8 0], []⟩).memory :=
  laidMet_of_run' 8 (by kernel_rfl) (by kernel_rfl)
theorem reads (os : Os) {H : Type} (enc : TypeId × Value → H) : ∃ places, DataW.whole enc Tryd.prog ((laidWorld os).forCall (fun _ _ => 0) ⟨#[], #[.slice none 0 0, .int .u8 0], []⟩).memory Tryd.f6.params.toList Rows.paramsPiecesSpec.vars false #[Value.slice none 0 0, Value.int .u8 0].toList 8 = some ([.nil, .lit (.int .u8 0)], [], places) :=
  ⟨[], by kernel_rfl⟩

set_option maxRecDepth 100000 in
theorem lifted (os : Os) (started : os.Started) (H : Type) (enc : TypeId × Value → H) (F : Stop.Interp) :
    ReturnsInHanded {} Tryd.checked os 6 .any ((OpenSpec.ofChange Rows.paramsPiecesSpec).preRow enc Tryd.prog Tryd.f6 Rows.paramsPiecesRow.domain false Rows.paramsPiecesRow.laid) (((OpenSpec.ofChange Rows.paramsPiecesSpec).at F).post enc Tryd.prog Tryd.f6 false true false false) := by
  obtain ⟨places, hx⟩ := reads os enc
  refine returnsInHanded_of_row (C := Tryd.checked) (s := OpenSpec.ofChange Rows.paramsPiecesSpec) own started (by kernel_rfl) Tryd.func6
    (witness_row_at (enc := enc) (C := Tryd.checked) false (laidWorld os) #[.slice none 0 0, .int .u8 0] rfl (by kernel_rfl) (by kernel_rfl) (by kernel_rfl)
      (OpenSpec.preRow_of_cond 8 hx (by kernel_rfl) (fun k hk => by cases hk) (by kernel_rfl) (laid_met os))) ?_
  intro W base args ds gs before hval hW _ _ _ hL _ _
  exact contract H enc W base args ds gs before hval hW

theorem said : Rows.ParamsPiecesSaid :=
  OpenClaim.holds_of_cond 6 Tryd.f6 rfl rfl rfl rfl rfl rfl rfl ⟨rfl, rfl, rfl, rfl, rfl⟩ rfl rfl rfl rfl rfl (by kernel_rfl) Tryd.func6 (by kernel_rfl)
    (of_decide_eq_true (by kernel_rfl)) (by unfold Func.isWrapper; first | (rw [if_pos (by decide +kernel)]; kernel_rfl) | (rw [if_neg (by decide +kernel)]; exact ⟨rfl, rfl⟩))
    (fun os started H enc _ F => by rw [OpenClaim.pre_eq_preRow]; exact lifted os started H enc F)

theorem plain (f : FuncId) (fn : Func) (hf : Tryd.pinned.checked.prog.funcNamed "letterbox/letterboxlaw07.ParamsPieces" = some f) (hfn : Tryd.pinned.checked.prog.funcs[f]? = some fn) :
    false = Tryd.pinned.checked.prog.looks [] ∧ ∀ (j : Nat) t, fn.params[j]? = some t → Tryd.pinned.checked.prog.wantsStandIn t = false := by
  obtain rfl : f = 6 := Option.some.inj ((show Tryd.prog.funcNamed "letterbox/letterboxlaw07.ParamsPieces" = some 6 by kernel_rfl).symm.trans hf) |>.symm
  obtain rfl : fn = Tryd.f6 := (Option.some.inj (Tryd.func6.symm.trans hfn)).symm
  refine ⟨by kernel_rfl, fun j t ht => ?_⟩
  rw [Tryd.params6] at ht
  obtain rfl | rfl : t = 44 ∨ t = 5 := by simpa using Array.mem_of_getElem? ht
  · exact (show Tryd.prog.wantsStandIn 44 = false by kernel_rfl)
  · exact (show Tryd.prog.wantsStandIn 5 = false by kernel_rfl)

theorem card : Rows.ParamsPiecesCardSaid :=
  Claim7.holds_tied_plain_at .later [] _ _ _ _ said (fun _ h => by cases h) (by kernel_rfl) (fun _ h => by cases h) paramsPieces_row_tie rfl ⟨rfl, rfl⟩ (by kernel_rfl) rfl plain (by kernel_rfl)
end Go.Proofs.YtmhhcoccfojiiaaDoor.paramsPieces
