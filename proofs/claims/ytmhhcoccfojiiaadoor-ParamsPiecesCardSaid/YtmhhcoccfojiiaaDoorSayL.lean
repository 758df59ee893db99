/- Pieces that are opened, in whatever order: the law's own answer. -/
import Derived.Test.YtmhhcoccfojiiaaDoorSayK
import Derived.Test.YtmhhcoccfojiiaaDoorFnsD
namespace Go.Proofs.YtmhhcoccfojiiaaDoor
open Go.Ev Go

theorem chk_cat {R : Type} {x y : Bs} (h : x.length + y.length ≤ 9223372036854775807) (K : Option R) : chk (catOk x y) K = K := by rw [cat_ok h]; rfl
theorem chk_nn {R : Type} (m : Nat) (K : Option R) : chk (decide ((0 : Int) ≤ (m : Int))) K = K := chk_p (by omega) K

theorem dig_cut : ∀ k : Fin 10, List.drop k.val (List.take (k.val + 1) [48, 49, 50, 51, 52, 53, 54, 55, 56, 57]) = ([UInt8.ofNat (48 + k.val)] : Bs) := by decide +kernel
theorem up_cut : ∀ k : Fin 16, List.drop k.val (List.take (k.val + 1) [48, 49, 50, 51, 52, 53, 54, 55, 56, 57, 65, 66, 67, 68, 69, 70]) = ([hexUp k.val] : Bs) := by decide +kernel
theorem low_cut : ∀ k : Fin 16, List.drop k.val (List.take (k.val + 1) [48, 49, 50, 51, 52, 53, 54, 55, 56, 57, 97, 98, 99, 100, 101, 102]) = ([hexLow k.val] : Bs) := by decide +kernel
theorem shr4 : ∀ n : Fin 256, Int.fdiv ((n.val : Nat) : Int) (2 ^ min (Int.toNat 4) (IntKind.bits .u8)) = ((n.val / 16 : Nat) : Int) := by decide +kernel
theorem and15 : ∀ n : Fin 256, bits .and .u8 ((n.val : Nat) : Int) 15 = ((n.val % 16 : Nat) : Int) := by decide +kernel

/-- The piece that stands at a place. -/
def turnF (vs : Bs) (t j : Nat) : Nat × UInt8 := ((j + t) % vs.length, vs.getD ((j + t) % vs.length) 0)
def laidF (vs : Bs) (t i : Nat) : List (Nat × UInt8) := (List.range i).map (turnF vs t)
theorem laidF_succ (vs : Bs) (t i : Nat) : piecesF (laidF vs t (i + 1)) = piecesF (laidF vs t i) ++ pieceF ((i + t) % vs.length) (vs.getD ((i + t) % vs.length) 0) := by
  unfold laidF piecesF
  rw [List.range_succ, List.map_append, List.flatMap_append]
  simp [turnF]
theorem pieceF_length (k : Nat) (c : UInt8) : (pieceF k c).length ≤ 30 := by
  have h1 : (numF k).length ≤ 2 := by unfold numF; split <;> simp
  have h2 : (valK k c).length ≤ 10 := by unfold valK; split <;> simp [pctF]
  unfold pieceF
  simp only [List.length_append, List.length_cons, List.length_nil]
  omega
theorem laidF_length (vs : Bs) (t : Nat) : ∀ i : Nat, (piecesF (laidF vs t i)).length ≤ 30 * i
  | 0 => by simp [laidF, piecesF]
  | i + 1 => by
    rw [laidF_succ, List.length_append]
    have := laidF_length vs t i
    have := pieceF_length ((i + t) % vs.length) (vs.getD ((i + t) % vs.length) 0)
    omega

theorem getI_ofBytes {vs : Bs} {k : Nat} (h : k < vs.length) : V.getI (List.getD (ofBytes vs) k V.bot) = ((vs[k].toNat : Nat) : Int) := by
  simp [ofBytes, List.getD, h, V.getI]

theorem turn_all (n t k : Nat) (hk : k < n) : ∃ j, j < n ∧ (j + t) % n = k := by
  have ht := Nat.mod_lt t (show 0 < n by omega)
  by_cases h : t % n ≤ k
  · refine ⟨k - t % n, by omega, ?_⟩
    rw [Nat.add_mod, Nat.mod_eq_of_lt (show k - t % n < n by omega), Nat.sub_add_cancel h, Nat.mod_eq_of_lt hk]
  · refine ⟨k + n - t % n, by omega, ?_⟩
    rw [Nat.add_mod, Nat.mod_eq_of_lt (show k + n - t % n < n by omega), Nat.sub_add_cancel (by omega), Nat.add_mod_right, Nat.mod_eq_of_lt hk]

section
variable (vs : Bs) (t : Nat) (hn : vs.length ≤ 12) (h0 : 0 < vs.length) (ht : t < 256)
include hn h0 ht

omit ht in
theorem loop6_end : Evt (fun k j => (L6 (callN cfg k) j).2 (ofBytes vs) (t : Int) (attachN ++ piecesF (laidF vs t vs.length)) vs ((vs.length : Nat) : Int)) (.bool true, []) := by
  refine N6_1 (ofBytes vs) (t : Int) _ vs ((vs.length : Nat) : Int) ?_
  have h1 : ¬ (((vs.length : Nat) : Int) < (((ofBytes vs).length : Nat) : Int)) := by rw [ofBytes_length]; omega
  have hl := laidF_length vs t vs.length
  have hp := parse_pieces vs hn h0 (laidF vs t vs.length) (fun p hp => by
      obtain ⟨j, hj, rfl⟩ := List.mem_map.1 hp
      have hlt := Nat.mod_lt (j + t) h0
      exact ⟨hlt, by simp [turnF, List.getD, hlt]⟩) (fun k hk => by
      obtain ⟨j, hj, e⟩ := turn_all vs.length t k hk
      exact ⟨turnF vs t j, List.mem_map.2 ⟨j, List.mem_range.2 hj, rfl⟩, e⟩) (by simp [laidF])
  have h8 := ret8 (attachN ++ piecesF (laidF vs t vs.length)) (by simp [attachN]; omega) false
  rw [hp] at h8
  have h10 := ret10 attachN [] [(fileN, vs)] (by simp) (by simp [fileN]) [102, 105, 108, 101, 110, 97, 109, 101] (by simp)
  have e1 : getF [(fileN, vs)] [102, 105, 108, 101, 110, 97, 109, 101] = some vs := by
    have : fileN.map low8 = ([102, 105, 108, 101, 110, 97, 109, 101] : Bs).map low8 := by decide +kernel
    rw [getF, if_pos this]
  rw [e1] at h10
  simp only [T6_1, h1, decide_false, Bool.false_eq_true, if_false]
  refine evt_bind h8 ?_
  refine evt_bind h10 ?_
  have s1 : sEq vs vs = true := by simp [sEq]
  simp only [parseV, V.getT, V.cells, List.headD_cons, List.tail_cons, V.getB, V.getS, V.getL, if_true, Option.getD_some, Option.isSome_some, s1, bind_s, List.length_map, List.length_cons, List.length_nil]
  exact evt_some _

theorem loop6_1 : ∀ (m i : Nat), vs.length - i = m → i ≤ vs.length →
    Evt (fun k j => (L6 (callN cfg k) j).2 (ofBytes vs) (t : Int) (attachN ++ piecesF (laidF vs t i)) vs ((i : Nat) : Int)) (.bool true, []) := by
  intro m
  induction m with
  | zero =>
    intro i h hi
    have : i = vs.length := by omega
    subst this
    exact loop6_end vs t hn h0
  | succ m ih =>
    intro i h hi
    refine N6_1 (ofBytes vs) (t : Int) _ vs ((i : Nat) : Int) ?_
    have hlt := Nat.mod_lt (i + t) h0
    have hnext := ih (i + 1) (by omega) (by omega)
    have hll := laidF_length vs t i
    have hgd : vs.getD ((i + t) % vs.length) 0 = vs[(i + t) % vs.length] := getD_at hlt
    rw [laidF_succ, hgd] at hnext
    have h1 : ((i : Int) < (vs.length : Int)) := by omega
    have hw0 : IntKind.wrap .i64 (t : Int) = (t : Int) := wrap64 (by omega) (by omega)
    have hw1 : IntKind.wrap .i64 ((i : Int) + (t : Int)) = ((i + t : Nat) : Int) := by rw [wrap64 (by omega) (by omega)]; omega
    have hmod : Int.tmod ((i + t : Nat) : Int) ((vs.length : Nat) : Int) = (((i + t) % vs.length : Nat) : Int) := by rw [Int.tmod_eq_emod_of_nonneg (by omega)]; omega
    have hwi : IntKind.wrap .i64 ((i : Int) + 1) = ((i + 1 : Nat) : Int) := by rw [wrap64 (by omega) (by omega)]; omega
    have hbv : V.getI (List.getD (ofBytes vs) ((i + t) % vs.length) V.bot) = ((vs[(i + t) % vs.length].toNat : Nat) : Int) := getI_ofBytes hlt
    generalize hk : (i + t) % vs.length = k at hlt hnext hgd hmod hbv
    generalize hc : vs[k] = c at hnext hgd hbv
    have hx := c.toNat_lt
    have h10 : Int.tmod (k : Int) 10 = ((k % 10 : Nat) : Int) := by rw [Int.tmod_eq_emod_of_nonneg (by omega)]; omega
    have hw2 : IntKind.wrap .i64 (((k % 10 : Nat) : Int) + 1) = ((k % 10 + 1 : Nat) : Int) := by rw [wrap64 (by omega) (by omega)]; omega
    have hs4 := shr4 ⟨c.toNat, hx⟩
    have ha15 := and15 ⟨c.toNat, hx⟩
    simp only at hs4 ha15
    have hw3 : IntKind.wrap .u8 (((c.toNat / 16 : Nat) : Int) + 1) = ((c.toNat / 16 + 1 : Nat) : Int) := by rw [wrap8 (by omega) (by omega)]; omega
    have hw4 : IntKind.wrap .u8 (((c.toNat % 16 : Nat) : Int) + 1) = ((c.toNat % 16 + 1 : Nat) : Int) := by rw [wrap8 (by omega) (by omega)]; omega
    have hix : ix6 (ofBytes vs) (t : Int) (i : Int) = (k : Int) := by unfold ix6; rw [hw0, hw1, ofBytes_length, hmod]
    have hdg : dg6 (ofBytes vs) (t : Int) (i : Int) = ((k % 10 : Nat) : Int) := by unfold dg6; rw [hix, h10]
    have hel : el6 (ofBytes vs) (t : Int) (i : Int) = ((c.toNat : Nat) : Int) := by unfold el6; rw [hix, Int.toNat_natCast, hbv]
    have hsh : sh6 (ofBytes vs) (t : Int) (i : Int) = ((c.toNat / 16 : Nat) : Int) := by unfold sh6; rw [hel]; exact hs4
    have han : an6 (ofBytes vs) (t : Int) (i : Int) = ((c.toNat % 16 : Nat) : Int) := by unfold an6; rw [hel]; exact ha15
    have hds : ds6 (ofBytes vs) (t : Int) (i : Int) = [UInt8.ofNat (48 + k % 10)] := by
      unfold ds6; rw [hdg, hw2, Int.toNat_natCast, Int.toNat_natCast]; exact dig_cut ⟨k % 10, by omega⟩
    have hhu : hu6 (ofBytes vs) (t : Int) (i : Int) = [hexUp (c.toNat / 16)] := by
      unfold hu6; rw [hsh, hw3, Int.toNat_natCast, Int.toNat_natCast]; exact up_cut ⟨c.toNat / 16, by omega⟩
    have hhl : hl6 (ofBytes vs) (t : Int) (i : Int) = [hexLow (c.toNat % 16)] := by
      unfold hl6; rw [han, hw4, Int.toNat_natCast, Int.toNat_natCast]; exact low_cut ⟨c.toNat % 16, by omega⟩
    have hp6 : pc6 (ofBytes vs) (t : Int) (i : Int) = pctF c := by unfold pc6; rw [hhu, hhl]; rfl
    have hpl : (pctF c).length = 3 := rfl
    have b0 : (((vs.length : Nat) : Int) != 0) = true := bne_iff_ne.2 (by omega)
    have b10 : ((10 : Int) != 0) = true := by decide
    have g1 : ((k % 10 + 1 : Nat) : Int) ≤ ((([48, 49, 50, 51, 52, 53, 54, 55, 56, 57] : List Nat).length : Nat) : Int) := by simp; omega
    have g2 : ((k % 10 : Nat) : Int) ≤ ((k % 10 + 1 : Nat) : Int) := by omega
    have g3 : (k : Int) < ((vs.length : Nat) : Int) := by omega
    have g4 : ((c.toNat / 16 + 1 : Nat) : Int) ≤ ((([48, 49, 50, 51, 52, 53, 54, 55, 56, 57, 65, 66, 67, 68, 69, 70] : List Nat).length : Nat) : Int) := by simp; omega
    have g5 : ((c.toNat / 16 : Nat) : Int) ≤ ((c.toNat / 16 + 1 : Nat) : Int) := by omega
    have g6 : ((c.toNat % 16 + 1 : Nat) : Int) ≤ ((([48, 49, 50, 51, 52, 53, 54, 55, 56, 57, 97, 98, 99, 100, 101, 102] : List Nat).length : Nat) : Int) := by simp; omega
    have g7 : ((c.toNat % 16 : Nat) : Int) ≤ ((c.toNat % 16 + 1 : Nat) : Int) := by omega
    have g8 : (0 : Int) ≤ 4 := by omega
    have hat : attachN.length = 10 := rfl
    by_cases h9 : k > 9
    · have d9 : (k : Int) > 9 := by omega
      have d0 : ((k : Int) == 0) = false := by simp; omega
      have hpc : pieceF k c = ([59, 32, 102, 105, 108, 101, 110, 97, 109, 101, 42] ++ ([49] ++ [UInt8.ofNat (48 + k % 10)]) ++ [42, 61]) ++ pctF c := by
        unfold pieceF numF valK
        rw [if_pos h9, if_neg (by omega)]
      rw [hpc] at hnext
      simp (disch := (simp only [List.length_append, List.length_cons, List.length_nil, hat, hpl]; omega)) only [T6_1, ofBytes_length, h1, decide_true, if_true, hix, hdg, hds, hsh, han, hhu, hhl, hp6, chk_b b0, chk_b b10, hw2, chk_nn, chk_p g1, chk_p g2, chk_p g3, chk_p g8, d9,
        hw3, hw4, chk_p g4, chk_p g5, chk_p g6, chk_p g7, d0, Bool.false_eq_true, if_false, chk_cat, hwi]
      simpa only [List.append_assoc] using hnext
    · have d9 : ¬ ((k : Int) > 9) := by omega
      by_cases hz : k = 0
      · have d0 : ((k : Int) == 0) = true := by simp; omega
        have hpc : pieceF k c = ([59, 32, 102, 105, 108, 101, 110, 97, 109, 101, 42] ++ [UInt8.ofNat (48 + k % 10)] ++ [42, 61]) ++ ([117, 116, 102, 45, 56, 39, 39] ++ pctF c) := by
          unfold pieceF numF valK
          rw [if_neg h9, if_pos hz]
        rw [hpc] at hnext
        simp (disch := (simp only [List.length_append, List.length_cons, List.length_nil, hat, hpl]; omega)) only [T6_1, ofBytes_length, h1, decide_true, if_true, hix, hdg, hds, hsh, han, hhu, hhl, hp6, chk_b b0, chk_b b10, hw2, chk_nn, chk_p g1, chk_p g2, chk_p g3, chk_p g8, d9, decide_false,
          hw3, hw4, chk_p g4, chk_p g5, chk_p g6, chk_p g7, d0, Bool.false_eq_true, if_false, chk_cat, hwi]
        simpa only [List.append_assoc] using hnext
      · have d0 : ((k : Int) == 0) = false := by simp; omega
        have hpc : pieceF k c = ([59, 32, 102, 105, 108, 101, 110, 97, 109, 101, 42] ++ [UInt8.ofNat (48 + k % 10)] ++ [42, 61]) ++ pctF c := by
          unfold pieceF numF valK
          rw [if_neg h9, if_neg hz]
        rw [hpc] at hnext
        simp (disch := (simp only [List.length_append, List.length_cons, List.length_nil, hat, hpl]; omega)) only [T6_1, ofBytes_length, h1, decide_true, if_true, hix, hdg, hds, hsh, han, hhu, hhl, hp6, chk_b b0, chk_b b10, hw2, chk_nn, chk_p g1, chk_p g2, chk_p g3, chk_p g8, d9, decide_false,
          hw3, hw4, chk_p g4, chk_p g5, chk_p g6, chk_p g7, d0, Bool.false_eq_true, if_false, chk_cat, hwi]
        simpa only [List.append_assoc] using hnext

theorem loop6_0 : ∀ (m i : Nat), vs.length - i = m → i ≤ vs.length →
    Evt (fun k j => (L6 (callN cfg k) j).1 (ofBytes vs) (t : Int) attachN (vs.take i) ((i : Nat) : Int)) (.bool true, []) := by
  intro m
  induction m with
  | zero =>
    intro i h hi
    have : i = vs.length := by omega
    subst this
    refine N6_0 (ofBytes vs) (t : Int) attachN (vs.take vs.length) ((vs.length : Nat) : Int) ?_
    have h1 : ¬ (((vs.length : Nat) : Int) < (((ofBytes vs).length : Nat) : Int)) := by rw [ofBytes_length]; omega
    have := loop6_1 vs t hn h0 ht vs.length 0 (by omega) (by omega)
    simp only [T6_0, h1, decide_false, Bool.false_eq_true, if_false, List.take_length]
    simpa [laidF, piecesF] using this
  | succ m ih =>
    intro i h hi
    refine N6_0 (ofBytes vs) (t : Int) attachN (vs.take i) ((i : Nat) : Int) ?_
    have hlt : i < vs.length := by omega
    have h1 : ((i : Int) < (((ofBytes vs).length : Nat) : Int)) := by rw [ofBytes_length]; omega
    have hwi : IntKind.wrap .i64 ((i : Int) + 1) = ((i + 1 : Nat) : Int) := by rw [wrap64 (by omega) (by omega)]; omega
    have hb : bytesOf [V.int IntKind.u8 (V.getI (List.getD (ofBytes vs) i V.bot))] = [vs[i]] := by
      rw [getI_ofBytes hlt]; simp [bytesOf, V.getI]
    have hc : catOk (vs.take i) [vs[i]] = true := cat_ok (by simp; omega)
    have hnx := ih (i + 1) (by omega) (by omega)
    have e : vs.take (i + 1) = vs.take i ++ [vs[i]] := by rw [List.take_succ_eq_append_getElem hlt]
    rw [e] at hnx
    simp only [T6_0, h1, decide_true, if_true, chk_nn, chk_t, Int.toNat_natCast, hb, chk_b hc, hwi]
    exact hnx
end

theorem ret6 (vs : Bs) (t : UInt8) : Ret 6 [.lst 5 false (ofBytes vs), .int .u8 (t.toNat : Nat)] [] (.bool true, []) := by
  refine M6 (ofBytes vs) (t.toNat : Nat) ?_
  simp only [T6, ofBytes_length]
  refine evt_bind ret7 ?_
  simp only [V.getB, Bool.not_true, Bool.false_eq_true, if_false]
  have hor : (if (((vs.length : Nat) : Int) == 0) = false then some (decide (((vs.length : Nat) : Int) > 12)) else some true) = some (decide (vs.length = 0 ∨ vs.length > 12)) := by
    by_cases h1 : vs.length = 0
    · have : (((vs.length : Nat) : Int) == 0) = true := beq_iff_eq.2 (by omega)
      rw [this, if_neg (by decide), decide_eq_true (.inl h1)]
    · have : (((vs.length : Nat) : Int) == 0) = false := beq_eq_false_iff_ne.2 (by omega)
      simp only [this, if_true, h1, false_or]
      congr 1
      exact decide_eq_decide.2 (by omega)
  rw [hor]
  simp only [bind_s]
  by_cases h : vs.length = 0 ∨ vs.length > 12
  · simp only [h, decide_true, if_true]
    exact evt_some _
  · simp only [h, decide_false, Bool.false_eq_true, if_false]
    have := loop6_0 vs t.toNat (by omega) (by omega) t.toNat_lt vs.length 0 (by omega) (by omega)
    exact this
end Go.Proofs.YtmhhcoccfojiiaaDoor
