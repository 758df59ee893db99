/- Lemmas for the claim, merged: the plain reading of the program's functions, its soundness, and what they compute. -/
import Derived.Test.YtemgbdncidgoiaaDoorPkE
import Derived.ChangeSlices
set_option linter.all false
set_option linter.unusedVariables false
set_option linter.unusedSimpArgs false
section
namespace Go.Proofs.YtemgbdncidgoiaaDoor
open Go.Ev Go
theorem appS_ok {x : List V} {y : Bs} {n : Nat} (h : (x.length + y.length) * n ≤ 70368744177664) : appOkS x y n = true := by simp [appOkS, h]
theorem loop4_2 {nl tx : Bs} (B : Bs) (k : Nat) (hk9 : k ≤ 1100) (q1 q2 q3 q4 q5 : Int) (cuts : List V) (e1 e2 : Int) : ∀ (m : Nat) (pre : List Pt) (p : Bs), pre.length + m = k → B = p ++ manyB nl tx m →
    Evt (fun q j => (L4 (callN cfg q) j).2.2 tx (k : Nat) (ofBytes B) (pre.length : Nat) q1 q2 q3 q4 q5 ((pre ++ kidsL nl.length tx.length p.length m).map partV) cuts e1 e2) (.bool true, [])
  | 0, pre, p, hk, hB => by
    refine N4_2 tx (k : Nat) (ofBytes B) (pre.length : Nat) q1 q2 q3 q4 q5 ((pre ++ kidsL nl.length tx.length p.length 0).map partV) cuts e1 e2 ?_
    have h1 : ¬ (((pre.length : Nat) : Int) < ((k : Nat) : Int)) := by omega
    simp only [T4_2, h1, decide_false, Bool.false_eq_true, if_false]
    exact evt_some _
  | m + 1, pre, p, hk, hB => by
    rw [kidsL]
    refine N4_2 tx (k : Nat) (ofBytes B) (pre.length : Nat) q1 q2 q3 q4 q5 ((pre ++ leafP (p.length + 3 + nl.length) (p.length + 3 + nl.length + nl.length) (p.length + 3 + nl.length + nl.length + tx.length) :: kidsL nl.length tx.length (p.length + (3 + 3 * nl.length + tx.length)) m).map partV) cuts e1 e2 ?_
    have e3 : B = (p ++ [45, 45, 113] ++ nl ++ nl) ++ (tx ++ (nl ++ manyB nl tx m)) := by rw [hB]; simp only [manyB, partB, List.append_assoc]
    have e4 : B = (p ++ partB nl tx) ++ manyB nl tx m := by rw [hB, manyB, List.append_assoc]
    have l2 : (p ++ [45, 45, 113] ++ nl ++ nl).length = p.length + 3 + nl.length + nl.length := by simp only [List.length_append, List.length_cons, List.length_nil]
    have l3 : (p ++ partB nl tx).length = p.length + (3 + 3 * nl.length + tx.length) := by rw [List.length_append, partB_length]
    have hs : subF B (p.length + 3 + nl.length + nl.length) (p.length + 3 + nl.length + nl.length + tx.length) = tx := by
      have := subF_mid (p ++ [45, 45, 113] ++ nl ++ nl) tx (nl ++ manyB nl tx m)
      rw [l2, ← e3] at this; exact this
    have hlen : p.length + 3 + nl.length + nl.length + tx.length ≤ B.length := by rw [e3, List.length_append, l2, List.length_append]; omega
    have ih := loop4_2 B k hk9 q1 q2 q3 q4 q5 cuts e1 e2 m (pre ++ [leafP (p.length + 3 + nl.length) (p.length + 3 + nl.length + nl.length) (p.length + 3 + nl.length + nl.length + tx.length)]) (p ++ partB nl tx) (by simp; omega) e4
    rw [l3] at ih
    generalize kidsL nl.length tx.length (p.length + (3 + 3 * nl.length + tx.length)) m = r at ih
    generalize hy : p.length + 3 + nl.length + nl.length = y at *
    generalize hz : y + tx.length = z at *
    have h1 : ((pre.length : Nat) : Int) < ((k : Nat) : Int) := by omega
    have h2 : (0 : Int) ≤ (pre.length : Nat) := by omega
    have h3 : ((pre.length : Nat) : Int) < ((((pre ++ leafP (p.length + 3 + nl.length) y z :: r).map partV).length : Nat) : Int) := by simp; omega
    have h4 : ¬ (((y : Nat) : Int) < 0) := by omega
    have h5 : ¬ (((y : Nat) : Int) > ((z : Nat) : Int)) := by omega
    have h6 : ¬ (((z : Nat) : Int) > ((B.length : Nat) : Int)) := by omega
    have h7 : (0 : Int) ≤ (z : Nat) := by omega
    have h8 : ((z : Nat) : Int) ≤ ((B.length : Nat) : Int) := by omega
    have h9 : (0 : Int) ≤ (y : Nat) := by omega
    have h10 : ((y : Nat) : Int) ≤ ((z : Nat) : Int) := by omega
    have hw : IntKind.wrap .i64 (((pre.length : Nat) : Int) + 1) = ((pre.length + 1 : Nat) : Int) := by rw [wrap64 (by omega) (by omega)]; omega
    have hq : sEq tx tx = true := by simp [sEq]
    simp only [T4_2, h1, decide_true, if_true, chk_p h2, chk_p h3, Int.toNat_natCast, getD_mid, leaf_V, cells_agg, List.headD_cons, List.tail_cons, getI_int, h4, h5, h6, decide_false, ofBytes_length, chk_p h7, chk_p h8, chk_p h9, chk_p h10, subB, hs, hq, Bool.not_true, Bool.false_eq_true, if_false, hw]
    simp only [List.append_assoc, List.singleton_append, List.length_append, List.length_cons, List.length_nil, Nat.zero_add] at ih
    exact ih
theorem loop4_1 {nl tx : Bs} (hnl : IsNl nl) (htx : Lets tx) (ht8 : tx.length ≤ 8) (B : Bs) (k : Nat) (hk : 0 < k) (hk9 : k ≤ 1100) (hB : B = ctqB ++ nl ++ nl ++ manyB nl tx k) (hBl : B.length ≤ 100000) : ∀ (m i : Nat) (s : Bs), k - i = m → i ≤ k → s.length ≤ 100 + 20 * i → s ++ manyB nl tx m = B →
    Evt (fun q j => (L4 (callN cfg q) j).2.1 tx (k : Nat) (partB nl tx) (ofBytes s) (i : Nat)) (.bool true, [])
  | 0, i, s, h, hi, hs, hR => by
    refine N4_1 tx (k : Nat) (partB nl tx) (ofBytes s) (i : Nat) ?_
    have h1 : ¬ (((i : Nat) : Int) < ((k : Nat) : Int)) := by omega
    have c1 : appOkS (ofBytes s) [45, 45, 113, 45, 45] 2 = true := appS_ok (by rw [ofBytes_length]; simp only [List.length_cons, List.length_nil]; omega)
    have e1 : ofBytes s ++ ofBytes [45, 45, 113, 45, 45] = ofBytes B := by rw [ofBytes_append, ← hR]; rfl
    have r15 := ret15 B hBl
    have he := many_ent hnl htx k hk
    rw [← hB] at he
    rw [he] at r15
    have g0 : (((0 : Int)) != (0 : Int)) = false := rfl
    have g1 : (((1 : Nat) : Int) != (1 : Int)) = false := rfl
    simp only [T4_1, h1, decide_false, Bool.false_eq_true, if_false, chk_b c1, e1]
    refine evt_bind r15 ?_
    by_cases hk99 : k ≤ 999
    · have h2 : ¬ (((k : Nat) : Int) > 999) := by omega
      rw [if_pos hk99]
      have hlk := kidsL_length nl.length tx.length k (ctqB ++ nl ++ nl).length
      have hck := kidsL_cnt nl.length tx.length k (ctqB ++ nl ++ nl).length
      have hl2 := fun q1 q2 q3 q4 q5 cuts e1 e2 => loop4_2 (nl := nl) (tx := tx) B k hk9 q1 q2 q3 q4 q5 cuts e1 e2 k [] (ctqB ++ nl ++ nl) (by simp) hB
      generalize kidsL nl.length tx.length (ctqB ++ nl ++ nl).length k = kids at *
      generalize cutsL nl.length tx.length (ctqB ++ nl ++ nl).length (ctqB ++ nl ++ nl).length k = cs at *
      generalize finF nl.length tx.length (ctqB ++ nl ++ nl).length (ctqB ++ nl ++ nl).length k = fi at *
      generalize (ctqB ++ nl ++ nl).length = at_ at *
      have r17 := ret17 (Pt.mk 1 (0, at_) (at_, B.length) kids cs (fi, B.length)) (by rw [cntF, hck]; omega)
      rw [cntF, hck] at r17
      simp only [partV, partVL_eq] at r17
      have g2 : ((((kids.map partV).length : Nat) : Int) != ((k : Nat) : Int)) = false := by rw [List.length_map, hlk]; simp
      have g3 : (((B.length : Nat) : Int) != ((B.length : Nat) : Int)) = false := by simp
      have hw : IntKind.wrap .i64 (((k : Nat) : Int) + 1) = ((1 + k : Nat) : Int) := by rw [wrap64 (by omega) (by omega)]; omega
      have g4 : (((1 + k : Nat) : Int) != ((1 + k : Nat) : Int)) = false := by simp
      simp only [getT_tup, partV, partVL_eq, cells_agg, List.headD_cons, List.tail_cons, getI_int, getL_lst, g0, Bool.false_eq_true, if_false, h2, decide_false, g1, g2, ofBytes_length, g3, if_true]
      refine evt_bind r17 ?_
      simp only [getI_int, hw, g4, Bool.false_eq_true, if_false]
      exact hl2 _ _ _ _ _ _ _ _
    · have h2 : (((k : Nat) : Int) > 999) := by omega
      rw [if_neg hk99]
      have g2 : (((0 : Nat) : Int) == (0 : Int)) = true := rfl
      simp only [getT_tup, leaf_V, cells_agg, List.headD_cons, List.tail_cons, getI_int, getL_lst, g0, Bool.false_eq_true, if_false, h2, decide_true, if_true, beq_self_eq_true, List.length_nil, g2, bind_s]
      exact evt_some _
  | m + 1, i, s, h, hi, hs, hR => by
    refine N4_1 tx (k : Nat) (partB nl tx) (ofBytes s) (i : Nat) ?_
    have h1 : (((i : Nat) : Int) < ((k : Nat) : Int)) := by omega
    have hnl2 : nl.length ≤ 2 := by rcases hnl with rfl | rfl <;> simp
    have hpl := partB_length nl tx
    have c1 : appOkS (ofBytes s) (partB nl tx) 2 = true := appS_ok (by rw [ofBytes_length, hpl]; omega)
    have hw : IntKind.wrap .i64 (((i : Nat) : Int) + 1) = ((i + 1 : Nat) : Int) := by rw [wrap64 (by omega) (by omega)]; omega
    simp only [T4_1, h1, decide_true, if_true, chk_b c1, ofBytes_append, hw]
    exact loop4_1 hnl htx ht8 B k hk hk9 hB hBl m (i + 1) (s ++ partB nl tx) (by omega) (by omega) (by rw [List.length_append, hpl]; omega) (by rw [List.append_assoc]; exact hR)
theorem many_go {nl tx : Bs} (hnl : IsNl nl) (htx : Lets tx) (ht8 : tx.length ≤ 8) (k : Nat) (hk : 0 < k) (hk9 : k ≤ 1100) :
    Evt (fun q j => (L4 (callN cfg q) j).2.1 tx (k : Nat) (partB nl tx) (ofBytes (ctqB ++ nl ++ nl)) 0) (.bool true, []) := by
  have hnl2 : nl.length ≤ 2 := by rcases hnl with rfl | rfl <;> simp
  have hl : (ctqB ++ nl ++ nl).length ≤ 43 := by rw [List.length_append, List.length_append, show ctqB.length = 39 from rfl]; omega
  have hm := manyB_length nl tx k
  have hx : k * (3 + 3 * nl.length + tx.length) ≤ 1100 * 17 := Nat.mul_le_mul hk9 (by omega)
  exact loop4_1 hnl htx ht8 (ctqB ++ nl ++ nl ++ manyB nl tx k) k hk hk9 rfl (by rw [List.length_append]; omega) k 0 (ctqB ++ nl ++ nl) (by omega) (by omega) (by omega) rfl
theorem loop4_0 (tx : Bs) (ht8 : tx.length ≤ 8) (b : Bool) (k : Nat) (hk : 0 < k) (hk9 : k ≤ 1100) : ∀ (m i : Nat), tx.length - i = m → i ≤ tx.length → (∀ c ∈ tx.take i, 97 ≤ c.toNat ∧ c.toNat ≤ 122) →
    Evt (fun q j => (L4 (callN cfg q) j).1 tx b (k : Nat) (i : Nat)) (.bool true, [])
  | 0, i, h, hi, hL => by
    refine N4_0 tx b (k : Nat) (i : Nat) ?_
    have h1 : ¬ (((i : Nat) : Int) < ((tx.length : Nat) : Int)) := by omega
    have htx : Lets tx := by rw [List.take_of_length_le (by omega)] at hL; exact hL
    cases b with
    | true =>
      have c1 : catOk [45, 45, 113] [10] = true := by kernel_rfl
      have c2 : catOk ([45, 45, 113] ++ [10]) [10] = true := by kernel_rfl
      have c3 : catOk (([45, 45, 113] ++ [10]) ++ [10]) tx = true := cat_ok (by simp; omega)
      have c4 : catOk ((([45, 45, 113] ++ [10]) ++ [10]) ++ tx) [10] = true := cat_ok (by simp; omega)
      have a1 : appOkS [] [99, 111, 110, 116, 101, 110, 116, 45, 116, 121, 112, 101, 58, 32, 109, 117, 108, 116, 105, 112, 97, 114, 116, 47, 120, 59, 32, 98, 111, 117, 110, 100, 97, 114, 121, 61, 34, 113, 34] 2 = true := by kernel_rfl
      have a2 : appOkS ([] ++ (ofBytes [99, 111, 110, 116, 101, 110, 116, 45, 116, 121, 112, 101, 58, 32, 109, 117, 108, 116, 105, 112, 97, 114, 116, 47, 120, 59, 32, 98, 111, 117, 110, 100, 97, 114, 121, 61, 34, 113, 34])) [10] 2 = true := by kernel_rfl
      have a3 : appOkS (([] ++ (ofBytes [99, 111, 110, 116, 101, 110, 116, 45, 116, 121, 112, 101, 58, 32, 109, 117, 108, 116, 105, 112, 97, 114, 116, 47, 120, 59, 32, 98, 111, 117, 110, 100, 97, 114, 121, 61, 34, 113, 34])) ++ (ofBytes [10])) [10] 2 = true := by kernel_rfl
      simp only [T4_0, h1, decide_false, Bool.false_eq_true, if_false, if_true, chk_b c1, chk_b c2, chk_b c3, chk_b c4, chk_b a1, chk_b a2, chk_b a3]
      exact many_go (nl := [10]) (.inl rfl) htx ht8 k hk hk9
    | false =>
      have c1 : catOk [45, 45, 113] [13, 10] = true := by kernel_rfl
      have c2 : catOk ([45, 45, 113] ++ [13, 10]) [13, 10] = true := by kernel_rfl
      have c3 : catOk (([45, 45, 113] ++ [13, 10]) ++ [13, 10]) tx = true := cat_ok (by simp; omega)
      have c4 : catOk ((([45, 45, 113] ++ [13, 10]) ++ [13, 10]) ++ tx) [13, 10] = true := cat_ok (by simp; omega)
      have a1 : appOkS [] [99, 111, 110, 116, 101, 110, 116, 45, 116, 121, 112, 101, 58, 32, 109, 117, 108, 116, 105, 112, 97, 114, 116, 47, 120, 59, 32, 98, 111, 117, 110, 100, 97, 114, 121, 61, 34, 113, 34] 2 = true := by kernel_rfl
      have a2 : appOkS ([] ++ (ofBytes [99, 111, 110, 116, 101, 110, 116, 45, 116, 121, 112, 101, 58, 32, 109, 117, 108, 116, 105, 112, 97, 114, 116, 47, 120, 59, 32, 98, 111, 117, 110, 100, 97, 114, 121, 61, 34, 113, 34])) [13, 10] 2 = true := by kernel_rfl
      have a3 : appOkS (([] ++ (ofBytes [99, 111, 110, 116, 101, 110, 116, 45, 116, 121, 112, 101, 58, 32, 109, 117, 108, 116, 105, 112, 97, 114, 116, 47, 120, 59, 32, 98, 111, 117, 110, 100, 97, 114, 121, 61, 34, 113, 34])) ++ (ofBytes [13, 10])) [13, 10] 2 = true := by kernel_rfl
      simp only [T4_0, h1, decide_false, Bool.false_eq_true, if_false, chk_b c1, chk_b c2, chk_b c3, chk_b c4, chk_b a1, chk_b a2, chk_b a3]
      exact many_go (nl := [13, 10]) (.inr rfl) htx ht8 k hk hk9
  | m + 1, i, h, hi, hL => by
    have hlt : i < tx.length := by omega
    refine N4_0 tx b (k : Nat) (i : Nat) ?_
    have h1 : (((i : Nat) : Int) < ((tx.length : Nat) : Int)) := by omega
    have h2 : (0 : Int) ≤ (i : Nat) := by omega
    have hw : IntKind.wrap .i64 (((i : Nat) : Int) + 1) = ((i + 1 : Nat) : Int) := by rw [wrap64 (by omega) (by omega)]; omega
    simp only [T4_0, h1, decide_true, if_true, chk_p h2, chk_t, Int.toNat_natCast, getD_at hlt, hw]
    by_cases q1 : ((tx[i].toNat : Nat) : Int) < 97
    · simp only [q1, decide_true, Bool.true_eq_false, if_false, bind_s, if_true]
      exact evt_some _
    · by_cases q2 : ((tx[i].toNat : Nat) : Int) > 122
      · simp only [q1, q2, decide_true, decide_false, if_true, bind_s]
        exact evt_some _
      · simp only [q1, q2, decide_false, if_true, bind_s, Bool.false_eq_true, if_false]
        refine loop4_0 tx ht8 b k hk hk9 m (i + 1) (by omega) (by omega) fun c hc => ?_
        rw [List.take_add_one, List.mem_append] at hc
        rcases hc with hc | hc
        · exact hL c hc
        · rw [List.getElem?_eq_getElem hlt] at hc
          simp at hc
          subst hc
          omega
theorem ret4 (n : Int) (hn : 0 ≤ n ∧ n < 65536) (tx : Bs) (b : Bool) : Ret 4 [.int .u16 n, .str tx, .bool b] [] (.bool true, []) := by
  refine M4 n tx b ?_
  simp only [T4]
  refine evt_bind ret14 ?_
  have g1 : ((1100 : Int) != 0) = true := rfl
  simp only [getB_bool, Bool.not_true, Bool.false_eq_true, if_false, chk_b g1]
  by_cases he : tx.length ≤ 8
  · have h1 : ¬ (((tx.length : Nat) : Int) > 8) := by omega
    obtain ⟨N, rfl⟩ : ∃ N : Nat, n = N := ⟨n.toNat, by omega⟩
    have hw : IntKind.wrap .i64 (IntKind.wrap .i64 (Int.tmod ((N : Nat) : Int) 1100) + 1) = ((N % 1100 + 1 : Nat) : Int) := by
      rw [show Int.tmod ((N : Nat) : Int) 1100 = ((N % 1100 : Nat) : Int) from rfl, wrapN (N % 1100) (by omega), wrap64 (by omega) (by omega)]; omega
    simp only [h1, decide_false, Bool.false_eq_true, if_false, hw]
    exact loop4_0 tx he b (N % 1100 + 1) (by omega) (by omega) tx.length 0 (by omega) (by omega) (by simp)
  · have h1 : (((tx.length : Nat) : Int) > 8) := by omega
    simp only [h1, decide_true, if_true]
    exact evt_some _
end Go.Proofs.YtemgbdncidgoiaaDoor
end
section
namespace Go.Proofs.YtemgbdncidgoiaaDoor
open Go.ChangeShapes Go.WideShapes Go.ChangeAt Go.RowKit Go.Ev
end Go.Proofs.YtemgbdncidgoiaaDoor
end
