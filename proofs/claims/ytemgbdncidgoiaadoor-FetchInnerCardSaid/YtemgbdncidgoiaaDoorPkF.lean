/- Lemmas for the claim, merged: the plain reading of the program's functions, its soundness, and what they compute. -/
import Derived.Test.YtemgbdncidgoiaaDoorPkE
import Derived.KernelRfl
import Derived.ChangeSlices
set_option linter.all false
set_option linter.unusedVariables false
set_option linter.unusedSimpArgs false
section
namespace Go.Proofs.YtemgbdncidgoiaaDoor
open Go.Ev Go
theorem ret54 (b : Bs) (hb : b.length ≤ 1000000000) : Ret 54 [.lst 5 false (ofBytes b)] [] (.lst 5 false (ofBytes b), []) := by
  refine ret_hand (h := cloneF) (by kernel_rfl) ?_
  have h1 := byteV_ofBytes b
  have h2 : (ofBytes b).length < 1099511627776 := by rw [ofBytes_length]; omega
  simp only [cloneF, h1, h2, decide_true, Bool.and_self, if_true]
def bytesF (b : Bs) (x y : Nat) : Bs := if x ≤ y ∧ y ≤ b.length then subF b x y else []
theorem ofB_sub (b : Bs) (x y : Nat) : List.drop x (List.take y (ofBytes b)) = ofBytes (subF b x y) := by simp [ofBytes, subF, List.map_drop, List.map_take]
theorem subF_le (b : Bs) (x y : Nat) : (subF b x y).length ≤ b.length := by unfold subF; rw [List.length_drop, List.length_take]; omega
theorem bytesF_le (b : Bs) (x y : Nat) : (bytesF b x y).length ≤ b.length := by
  unfold bytesF
  split
  · exact subF_le b x y
  · simp
theorem ret53 (b : Bs) (hb : b.length ≤ 1000000) (x y : Nat) : Ret 53 [.lst 5 false (ofBytes b), .agg [.int .i64 (x : Nat), .int .i64 (y : Nat)]] [] (.lst 5 false (ofBytes (bytesF b x y)), []) := by
  refine M53 (ofBytes b) (x : Nat) (y : Nat) ?_
  simp only [T53, ofBytes_length]
  refine evt_bind (ret73 (x : Nat) (y : Nat) (b.length : Nat)) ?_
  simp only [getB_bool]
  unfold bytesF
  by_cases h : x ≤ y ∧ y ≤ b.length
  · have h1 : (0 : Int) ≤ (x : Nat) ∧ ((x : Nat) : Int) ≤ (y : Nat) ∧ ((y : Nat) : Int) ≤ (b.length : Nat) := by omega
    have h2 : (0 : Int) ≤ (y : Nat) := by omega
    have hl := subF_le b x y
    rw [if_pos h]
    simp only [decide_eq_true h1, Bool.not_true, Bool.false_eq_true, if_false, chk_p h2, chk_p h1.2.2, chk_p h1.1, chk_p h1.2.1, Int.toNat_natCast, ofB_sub]
    refine evt_bind (ret54 (subF b x y) (by omega)) ?_
    simp only [getL_lst]
    exact evt_some _
  · have h1 : ¬ ((0 : Int) ≤ (x : Nat) ∧ ((x : Nat) : Int) ≤ (y : Nat) ∧ ((y : Nat) : Int) ≤ (b.length : Nat)) := by omega
    rw [if_neg h]
    simp only [decide_eq_false h1, Bool.not_false, if_true]
    exact evt_some _
theorem ret69 (n l : Int) : Ret 69 [.int .i64 n, .int .i64 l] [] (.bool (decide (l ≤ n ∧ n ≤ 4294967295)), []) := by
  refine M69 n l ?_
  simp only [T69]
  refine evt_opt (v := decide (l ≤ n ∧ n ≤ 4294967295)) ?_ (evt_some _)
  by_cases h1 : l ≤ n
  · by_cases h2 : n ≤ 4294967295 <;> simp [h1, h2]
  · have : ¬ (n ≥ l) := h1
    simp only [this, h1, decide_false, Bool.false_eq_true, if_false, false_and]
def prB (c : UInt8) : Bool := decide (32 ≤ c.toNat ∧ c.toNat < 127)
theorem loop70 (s : Bs) (hs : s.length ≤ 1000000) : ∀ (m i : Nat), s.length - i = m → i ≤ s.length →
    Evt (fun k j => L70 (callN cfg k) j s (s.length : Nat) (i : Nat)) (.bool ((s.drop i).all prB), [])
  | 0, i, h, hi => by
    refine N70_0 s (s.length : Nat) (i : Nat) ?_
    have h1 : ¬ (((i : Nat) : Int) < ((s.length : Nat) : Int)) := by omega
    rw [List.drop_eq_nil_of_le (by omega)]
    simp only [T70_0, h1, decide_false, Bool.false_eq_true, if_false]
    exact evt_some _
  | m + 1, i, h, hi => by
    have hlt : i < s.length := by omega
    refine N70_0 s (s.length : Nat) (i : Nat) ?_
    have h1 : (((i : Nat) : Int) < ((s.length : Nat) : Int)) := by omega
    have h2 : (0 : Int) ≤ (i : Nat) := by omega
    have hw : IntKind.wrap .i64 (((i : Nat) : Int) + 1) = ((i + 1 : Nat) : Int) := by rw [wrap64 (by omega) (by omega)]; omega
    rw [drop_at hlt, List.all_cons]
    simp only [T70_0, h1, decide_true, if_true, chk_p h2, chk_t, Int.toNat_natCast, getD_at hlt, hw]
    by_cases q1 : ((s[i].toNat : Nat) : Int) < 32
    · have hp : prB s[i] = false := by unfold prB; exact decide_eq_false (by omega)
      simp only [q1, decide_true, Bool.true_eq_false, if_false, bind_s, if_true, hp, Bool.false_and]
      exact evt_some _
    · by_cases q2 : ((s[i].toNat : Nat) : Int) ≥ 127
      · have hp : prB s[i] = false := by unfold prB; exact decide_eq_false (by omega)
        simp only [q1, q2, decide_true, decide_false, if_true, bind_s, hp, Bool.false_and]
        exact evt_some _
      · have hp : prB s[i] = true := by unfold prB; exact decide_eq_true (by omega)
        simp only [q1, q2, decide_false, if_true, bind_s, Bool.false_eq_true, if_false, hp, Bool.true_and]
        exact loop70 s hs m (i + 1) (by omega) (by omega)
theorem ret70 (s : Bs) (hs : s.length ≤ 1000000) : Ret 70 [.str s] [] (.bool (s.all prB), []) := by
  refine M70 s ?_
  simp only [T70]
  have := loop70 s hs s.length 0 (by omega) (by omega)
  rw [List.drop_zero] at this
  exact this
structure Sp where
  path : List Int
  what : Int
  names : List Bs
  cut : Bool
  fr : Int
  many : Int
def pathV (n : Int) : V := .int .i64 n
def specV (s : Sp) : V := .agg [.lst 3 false (s.path.map pathV), .int .i64 s.what, .lst 9 false (s.names.map V.str), .bool s.cut, .int .i64 s.fr, .int .i64 s.many]
def inB (l n : Int) : Bool := decide (l ≤ n ∧ n ≤ 4294967295)
def checkF (s : Sp) : Bool :=
  decide (s.path.length ≤ 64 ∧ 0 ≤ s.what ∧ s.what ≤ 5 ∧ (s.what = 5 → 0 < s.path.length)) && s.path.all (inB 1) && s.names.all (fun n => n.all prB) &&
  (if s.what = 2 ∨ s.what = 3 then decide (1 ≤ s.names.length ∧ s.names.length ≤ 100) else decide (s.names.length = 0)) &&
  (if s.cut then inB 0 s.fr && inB 1 s.many else decide (s.fr = 0 ∧ s.many = 0))
theorem ret71 (s : Sp) : Ret 71 [specV s] [] (.bool (decide (s.what = 2 ∨ s.what = 3)), []) := by
  refine M71 (s.path.map pathV) s.what (s.names.map V.str) s.cut s.fr s.many ?_
  simp only [T71]
  refine evt_opt (v := decide (s.what = 2 ∨ s.what = 3)) ?_ (evt_some _)
  by_cases h1 : s.what = 2
  · simp [h1]
  · by_cases h2 : s.what = 3
    · simp [h2]
    · simp [h1, h2]
theorem check_end (s : Sp) (b0 : Bool) (i : Int) (hi : i = (s.names.length : Nat)) :
    Evt (fun k j => (L51 (callN cfg k) j).2 b0 (s.names.map V.str) (s.names.length : Nat) i (s.path.map pathV) s.what (s.names.map V.str) s.cut s.fr s.many)
      (.int .i64 (if b0 && (if s.what = 2 ∨ s.what = 3 then decide (1 ≤ s.names.length ∧ s.names.length ≤ 100) else decide (s.names.length = 0)) && (if s.cut then inB 0 s.fr && inB 1 s.many else decide (s.fr = 0 ∧ s.many = 0)) then 0 else 1), []) := by
  subst hi
  refine N51_1 b0 (s.names.map V.str) (s.names.length : Nat) (s.names.length : Nat) (s.path.map pathV) s.what (s.names.map V.str) s.cut s.fr s.many ?_
  have h1 : ¬ (((s.names.length : Nat) : Int) < ((s.names.length : Nat) : Int)) := by omega
  simp only [T51_1, h1, decide_false, Bool.false_eq_true, if_false, List.length_map]
  refine evt_bind (ret71 s) ?_
  simp only [getB_bool]
  have hfin : ∀ y : Bool, Evt (fun k j => if s.cut = true then
        if y = true then
          Option.bind (callN cfg k 69 [(V.int .i64 s.fr), (V.int .i64 (0 : Int))] []) fun z2 =>
          if (V.getB z2.1) = true then
            Option.bind (callN cfg k 69 [(V.int .i64 s.many), (V.int .i64 (1 : Int))] []) fun z3 =>
            if (!(V.getB z3.1)) = true then some ((V.int .i64 (1 : Int)), []) else some ((V.int .i64 (0 : Int)), [])
          else if (!false) = true then some ((V.int .i64 (1 : Int)), []) else some ((V.int .i64 (0 : Int)), [])
        else if (!false) = true then some ((V.int .i64 (1 : Int)), []) else some ((V.int .i64 (0 : Int)), [])
      else
        Option.bind (if y = true then if (s.fr == (0 : Int)) = true then some (s.many == (0 : Int)) else some false else some false) fun y2 =>
        if (!y2) = true then some ((V.int .i64 (1 : Int)), []) else some ((V.int .i64 (0 : Int)), []))
      (V.int .i64 (if y && (if s.cut then inB 0 s.fr && inB 1 s.many else decide (s.fr = 0 ∧ s.many = 0)) then 0 else 1), ([] : List Ob)) := by
    intro y
    cases hc : s.cut with
    | true =>
      cases y with
      | true =>
        simp only [if_true]
        refine evt_bind (ret69 s.fr 0) ?_
        simp only [getB_bool]
        unfold inB
        by_cases k1 : 0 ≤ s.fr ∧ s.fr ≤ 4294967295
        · simp only [decide_eq_true k1, if_true, Bool.true_and]
          refine evt_bind (ret69 s.many 1) ?_
          simp only [getB_bool]
          by_cases k2 : 1 ≤ s.many ∧ s.many ≤ 4294967295
          · simp only [decide_eq_true k2, Bool.not_true, Bool.false_eq_true, if_false, if_true]; exact evt_some _
          · simp only [decide_eq_false k2, Bool.not_false, if_true, Bool.false_eq_true, if_false]; exact evt_some _
        · simp only [decide_eq_false k1, Bool.false_eq_true, if_false, Bool.not_false, if_true, Bool.false_and, Bool.and_false]; exact evt_some _
      | false => simp only [if_true, Bool.false_eq_true, if_false, Bool.not_false, Bool.false_and]; exact evt_some _
    | false =>
      simp only [Bool.false_eq_true, if_false]
      refine evt_opt (v := y && decide (s.fr = 0 ∧ s.many = 0)) ?_ ?_
      · cases y with
        | false => simp
        | true =>
          by_cases k1 : s.fr = 0
          · by_cases k2 : s.many = 0 <;> simp [k1, k2]
          · simp [k1]
      · cases hy : (y && decide (s.fr = 0 ∧ s.many = 0)) with
        | true => simp only [Bool.not_true, Bool.false_eq_true, if_false, if_true]; exact evt_some _
        | false => simp only [Bool.not_false, if_true, Bool.false_eq_true, if_false]; exact evt_some _
  by_cases hw : s.what = 2 ∨ s.what = 3
  · simp only [decide_eq_true hw, if_true, if_pos hw]
    refine evt_opt (v := b0 && decide (1 ≤ s.names.length ∧ s.names.length ≤ 100)) ?_ (hfin _)
    cases b0 with
    | false => simp
    | true =>
      by_cases k1 : 1 ≤ s.names.length
      · have k1' : ((s.names.length : Nat) : Int) ≥ 1 := by omega
        by_cases k2 : s.names.length ≤ 100
        · have k2' : ((s.names.length : Nat) : Int) ≤ 100 := by omega
          simp only [k1, k2, k1', k2', decide_true, if_true, and_self, Bool.and_self]
        · have k2' : ¬ (((s.names.length : Nat) : Int) ≤ 100) := by omega
          simp only [k1, k2, k1', k2', decide_true, decide_false, if_true, and_false, Bool.and_false]
      · have k1' : ¬ (((s.names.length : Nat) : Int) ≥ 1) := by omega
        simp only [k1, k1', decide_false, Bool.false_eq_true, if_false, if_true, false_and, Bool.and_false]
  · simp only [decide_eq_false hw, Bool.false_eq_true, if_false, if_neg hw]
    refine evt_opt (v := b0 && decide (s.names.length = 0)) ?_ (hfin _)
    cases b0 with
    | false => simp
    | true =>
      have : (((s.names.length : Nat) : Int) == (0 : Int)) = decide (s.names.length = 0) := by
        by_cases k : s.names.length = 0
        · rw [k]; rfl
        · have : ¬ (((s.names.length : Nat) : Int) = 0) := by omega
          simp only [k, decide_false, beq_eq_false_iff_ne, ne_eq, this, not_false_eq_true]
      simp only [this, if_true, Bool.true_and]
theorem loop51_1 (s : Sp) (hn : s.names.length ≤ 1000000) (hv : ∀ n ∈ s.names, n.length ≤ 1000000) : ∀ (m i : Nat) (b0 : Bool), s.names.length - i = m → i ≤ s.names.length →
    Evt (fun k j => (L51 (callN cfg k) j).2 b0 (s.names.map V.str) (s.names.length : Nat) (i : Nat) (s.path.map pathV) s.what (s.names.map V.str) s.cut s.fr s.many)
      (.int .i64 (if b0 && (s.names.drop i).all (fun n => n.all prB) && (if s.what = 2 ∨ s.what = 3 then decide (1 ≤ s.names.length ∧ s.names.length ≤ 100) else decide (s.names.length = 0)) && (if s.cut then inB 0 s.fr && inB 1 s.many else decide (s.fr = 0 ∧ s.many = 0)) then 0 else 1), [])
  | 0, i, b0, h, hi => by
    rw [List.drop_eq_nil_of_le (by omega), List.all_nil, Bool.and_true]
    exact check_end s b0 (i : Nat) (by omega)
  | m + 1, i, b0, h, hi => by
    have hlt : i < s.names.length := by omega
    refine N51_1 b0 (s.names.map V.str) (s.names.length : Nat) (i : Nat) (s.path.map pathV) s.what (s.names.map V.str) s.cut s.fr s.many ?_
    have h1 : (((i : Nat) : Int) < ((s.names.length : Nat) : Int)) := by omega
    have h2 : (0 : Int) ≤ (i : Nat) := by omega
    have hw : IntKind.wrap .i64 (((i : Nat) : Int) + 1) = ((i + 1 : Nat) : Int) := by rw [wrap64 (by omega) (by omega)]; omega
    have hg : (s.names.map V.str).getD i .bot = .str s.names[i] := by simp [List.getD, hlt]
    have hd : s.names.drop i = s.names[i] :: s.names.drop (i + 1) := List.drop_eq_getElem_cons hlt
    rw [hd, List.all_cons]
    simp only [T51_1, h1, decide_true, if_true, chk_p h2, List.length_map, chk_t, Int.toNat_natCast, hg, getS_str, hw]
    cases b0 with
    | true =>
      simp only [if_true]
      refine evt_bind (ret70 s.names[i] (hv _ (List.getElem_mem hlt))) ?_
      simp only [getB_bool]
      have := loop51_1 s hn hv m (i + 1) (s.names[i].all prB) (by omega) (by omega)
      rw [Bool.true_and]
      exact this
    | false =>
      simp only [Bool.false_eq_true, if_false]
      have := loop51_1 s hn hv m (i + 1) false (by omega) (by omega)
      simpa only [Bool.false_and] using this
theorem loop51_0 (s : Sp) (hn : s.names.length ≤ 1000000) (hv : ∀ n ∈ s.names, n.length ≤ 1000000) (hp : s.path.length ≤ 1000000) : ∀ (m i : Nat) (b0 : Bool), s.path.length - i = m → i ≤ s.path.length →
    Evt (fun k j => (L51 (callN cfg k) j).1 b0 (s.path.map pathV) (s.path.length : Nat) (i : Nat) (s.path.map pathV) s.what (s.names.map V.str) s.cut s.fr s.many)
      (.int .i64 (if b0 && (s.path.drop i).all (inB 1) && s.names.all (fun n => n.all prB) && (if s.what = 2 ∨ s.what = 3 then decide (1 ≤ s.names.length ∧ s.names.length ≤ 100) else decide (s.names.length = 0)) && (if s.cut then inB 0 s.fr && inB 1 s.many else decide (s.fr = 0 ∧ s.many = 0)) then 0 else 1), [])
  | 0, i, b0, h, hi => by
    refine N51_0 b0 (s.path.map pathV) (s.path.length : Nat) (i : Nat) (s.path.map pathV) s.what (s.names.map V.str) s.cut s.fr s.many ?_
    have h1 : ¬ (((i : Nat) : Int) < ((s.path.length : Nat) : Int)) := by omega
    rw [List.drop_eq_nil_of_le (by omega), List.all_nil, Bool.and_true]
    simp only [T51_0, h1, decide_false, Bool.false_eq_true, if_false, List.length_map]
    exact loop51_1 s hn hv s.names.length 0 b0 (by omega) (by omega)
  | m + 1, i, b0, h, hi => by
    have hlt : i < s.path.length := by omega
    refine N51_0 b0 (s.path.map pathV) (s.path.length : Nat) (i : Nat) (s.path.map pathV) s.what (s.names.map V.str) s.cut s.fr s.many ?_
    have h1 : (((i : Nat) : Int) < ((s.path.length : Nat) : Int)) := by omega
    have h2 : (0 : Int) ≤ (i : Nat) := by omega
    have hw : IntKind.wrap .i64 (((i : Nat) : Int) + 1) = ((i + 1 : Nat) : Int) := by rw [wrap64 (by omega) (by omega)]; omega
    have hg : (s.path.map pathV).getD i .bot = .int .i64 s.path[i] := by simp [List.getD, hlt, pathV]
    have hd : s.path.drop i = s.path[i] :: s.path.drop (i + 1) := List.drop_eq_getElem_cons hlt
    rw [hd, List.all_cons]
    simp only [T51_0, h1, decide_true, if_true, chk_p h2, List.length_map, chk_t, Int.toNat_natCast, hg, getI_int, hw]
    cases b0 with
    | true =>
      simp only [if_true]
      refine evt_bind (ret69 s.path[i] 1) ?_
      simp only [getB_bool]
      have := loop51_0 s hn hv hp m (i + 1) (inB 1 s.path[i]) (by omega) (by omega)
      rw [Bool.true_and]
      exact this
    | false =>
      simp only [Bool.false_eq_true, if_false]
      have := loop51_0 s hn hv hp m (i + 1) false (by omega) (by omega)
      simpa only [Bool.false_and] using this
theorem ret51 (s : Sp) (hn : s.names.length ≤ 1000000) (hv : ∀ n ∈ s.names, n.length ≤ 1000000) (hp : s.path.length ≤ 1000000) : Ret 51 [specV s] [] (.int .i64 (if checkF s then 0 else 1), []) := by
  refine M51 (s.path.map pathV) s.what (s.names.map V.str) s.cut s.fr s.many ?_
  simp only [T51, List.length_map]
  refine evt_opt (v := decide (s.path.length ≤ 64 ∧ 0 ≤ s.what ∧ s.what ≤ 5 ∧ (s.what = 5 → 0 < s.path.length))) ?_ ?_
  · by_cases k1 : s.path.length ≤ 64
    · have k1' : ((s.path.length : Nat) : Int) ≤ 64 := by omega
      by_cases k2 : 0 ≤ s.what
      · have k2' : s.what ≥ 0 := k2
        by_cases k3 : s.what ≤ 5
        · by_cases k4 : s.what = 5
          · have k5 : decide (((s.path.length : Nat) : Int) > 0) = decide (0 < s.path.length) := by
              by_cases k : 0 < s.path.length
              · have : ((s.path.length : Nat) : Int) > 0 := by omega
                simp only [k, this, decide_true]
              · have : ¬ (((s.path.length : Nat) : Int) > 0) := by omega
                simp only [k, this, decide_false]
            simp [k1, k1', k4, k5]
          · have k4' : (s.what != 5) = true := by simp [k4]
            simp [k1, k1', k2, k2', k3, k4, k4']
        · simp [k1, k1', k2, k2', k3]
      · have k2' : ¬ (s.what ≥ 0) := k2
        simp [k1, k1', k2, k2']
    · have k1' : ¬ (((s.path.length : Nat) : Int) ≤ 64) := by omega
      simp only [k1, k1', decide_false, Bool.false_eq_true, if_false, false_and]
  · have := loop51_0 s hn hv hp s.path.length 0 (decide (s.path.length ≤ 64 ∧ 0 ≤ s.what ∧ s.what ≤ 5 ∧ (s.what = 5 → 0 < s.path.length))) (by omega) (by omega)
    rw [List.drop_zero] at this
    exact this
end Go.Proofs.YtemgbdncidgoiaaDoor
end
section
namespace Go.Proofs.YtemgbdncidgoiaaDoor
open Go.Ev Go
def hasN (names : List Bs) (x : Bs) : Bool := names.any fun n => low x == low n
def idxS (x : Bs) : List Bs → Option Nat
  | [] => none
  | n :: r => if low x == low n then some 0 else (idxS x r).map (· + 1)
theorem idxS_has (x : Bs) : ∀ l : List Bs, decide (optI (idxS x l) ≥ 0) = hasN l x
  | [] => rfl
  | n :: r => by
    have ih := idxS_has x r
    unfold hasN at ih ⊢
    rw [idxS, List.any_cons]
    cases h : (low x == low n) with
    | true => simp [optI]
    | false =>
      simp only [Bool.false_eq_true, if_false, Bool.false_or]
      rw [← ih]
      cases idxS x r with
      | none => rfl
      | some k => simp only [Option.map_some, optI]; simp; omega
theorem ret94 (n x : Bs) (p q r : Int) (hn : n.length ≤ 1000000) (hx : x.length ≤ 1000000) :
    Ret 94 [.str n, .ref 0 0] [.cells [.str x, .int .i64 p, .int .i64 q, .int .i64 r]] (.bool (low x == low n), [.cells [.str x, .int .i64 p, .int .i64 q, .int .i64 r]]) := by
  refine M94 n x p q r ?_
  simp only [T94]
  refine evt_bind (ret62 x n (by omega) (by omega)) ?_
  exact evt_some _
theorem loop109 (x : Bs) (hx : x.length ≤ 1000000) (p q r : Int) (l : List Bs) (hl : l.length ≤ 1000000) (hv : ∀ n ∈ l, n.length ≤ 1000000) : ∀ (m i : Nat), l.length - i = m → i ≤ l.length →
    Evt (fun k j => L109 (callN cfg k) j (l.map V.str) (l.length : Nat) (i : Nat) x p q r) (.int .i64 (optI ((idxS x (l.drop i)).map (· + i))), [.cells [.str x, .int .i64 p, .int .i64 q, .int .i64 r]])
  | 0, i, h, hi => by
    refine N109_0 (l.map V.str) (l.length : Nat) (i : Nat) x p q r ?_
    have h1 : ¬ (((i : Nat) : Int) < ((l.length : Nat) : Int)) := by omega
    rw [List.drop_eq_nil_of_le (by omega)]
    simp only [T109_0, h1, decide_false, Bool.false_eq_true, if_false]
    exact evt_some _
  | m + 1, i, h, hi => by
    have hlt : i < l.length := by omega
    refine N109_0 (l.map V.str) (l.length : Nat) (i : Nat) x p q r ?_
    have h1 : (((i : Nat) : Int) < ((l.length : Nat) : Int)) := by omega
    have h2 : (0 : Int) ≤ (i : Nat) := by omega
    have hw : IntKind.wrap .i64 (((i : Nat) : Int) + 1) = ((i + 1 : Nat) : Int) := by rw [wrap64 (by omega) (by omega)]; omega
    have hg : (l.map V.str).getD i .bot = .str l[i] := by simp [List.getD, hlt]
    have hd : l.drop i = l[i] :: l.drop (i + 1) := List.drop_eq_getElem_cons hlt
    rw [hd, idxS]
    simp only [T109_0, h1, decide_true, if_true, chk_p h2, List.length_map, chk_t, Int.toNat_natCast, hg, getS_str, hw]
    refine evt_bind (ret94 l[i] x p q r (hv _ (List.getElem_mem hlt)) hx) ?_
    simp only [getB_bool, Ob.getC, List.headD_cons, List.tail_cons, getS_str, getI_int]
    cases hs : (low x == low l[i]) with
    | true =>
      simp only [if_true, Option.map_some, Nat.zero_add, optI]
      exact evt_some _
    | false =>
      simp only [Bool.false_eq_true, if_false]
      have := loop109 x hx p q r l hl hv m (i + 1) (by omega) (by omega)
      rw [Option.map_map]
      have he : ((fun y : Nat => y + i) ∘ fun y => y + 1) = fun y => y + (i + 1) := by funext y; simp only [Function.comp]; omega
      rw [he]
      exact this
theorem ret93 (x : Bs) (hx : x.length ≤ 1000000) (p q r : Int) (l : List Bs) (hl : l.length ≤ 1000000) (hv : ∀ n ∈ l, n.length ≤ 1000000) :
    Ret 93 [.lst 9 false (l.map V.str), .clo (Fn.func 94) [] [.ref 0 0]] [.cells [.str x, .int .i64 p, .int .i64 q, .int .i64 r]] (.bool (hasN l x), [.cells [.str x, .int .i64 p, .int .i64 q, .int .i64 r]]) := by
  refine M93 (l.map V.str) x p q r ?_
  simp only [T93]
  have h109 : Ret 109 [.lst 9 false (l.map V.str), .clo (Fn.func 94) [] [.ref 0 0]] [.cells [.str x, .int .i64 p, .int .i64 q, .int .i64 r]] (.int .i64 (optI (idxS x l)), [.cells [.str x, .int .i64 p, .int .i64 q, .int .i64 r]]) := by
    refine M109 (l.map V.str) x p q r ?_
    simp only [T109, List.length_map]
    have := loop109 x hx p q r l hl hv l.length 0 (by omega) (by omega)
    simpa using this
  refine evt_bind h109 ?_
  simp only [getI_int, Ob.getC, List.headD_cons, List.tail_cons, getS_str]
  rw [← idxS_has x l]
  exact evt_some _
def stepS (b : Bs) (names : List Bs) (but : Bool) (out : Bs) (f : Fd) : Bs :=
  if hasN names f.1 = but then out else if f.2.1 ≤ f.2.2.2 ∧ f.2.2.2 ≤ b.length then
    out ++ subF b f.2.1 f.2.2.2 ++ (if f.2.2.2 = f.2.1 ∨ b.getD (f.2.2.2 - 1) 0 ≠ 10 then [13, 10] else [])
  else out
def someF (b : Bs) (l : List Fd) (names : List Bs) (but : Bool) : Bs := l.foldl (stepS b names but) [] ++ [13, 10]
theorem stepS_len (b : Bs) (names : List Bs) (but : Bool) (out : Bs) (f : Fd) : (stepS b names but out f).length ≤ out.length + b.length + 2 := by
  have := subF_le b f.2.1 f.2.2.2
  unfold stepS
  split
  · omega
  · split
    · split
      · simp only [List.length_append, List.length_cons, List.length_nil]; omega
      · simp only [List.length_append, List.length_nil]; omega
    · omega
theorem loop72 (b : Bs) (hb : b.length ≤ 100000) (names : List Bs) (hn : names.length ≤ 1000000) (hv : ∀ n ∈ names, n.length ≤ 1000000) (but : Bool) (l : List Fd) (hl : l.length ≤ 100000) (hf : ∀ f ∈ l, f.1.length ≤ 1000000 ∧ f.2.2.2 ≤ 1000000) : ∀ (m i : Nat) (out : Bs), l.length - i = m → i ≤ l.length → out.length ≤ i * 100002 →
    Evt (fun k j => L72 (callN cfg k) j (ofBytes b) (names.map V.str) but (ofBytes out) (l.map fdV) (l.length : Nat) (i : Nat)) (.lst 5 false (ofBytes ((l.drop i).foldl (stepS b names but) out ++ [13, 10])), [])
  | 0, i, out, h, hi, ho => by
    refine N72_0 (ofBytes b) (names.map V.str) but (ofBytes out) (l.map fdV) (l.length : Nat) (i : Nat) ?_
    have h1 : ¬ (((i : Nat) : Int) < ((l.length : Nat) : Int)) := by omega
    have hm : i * 100002 ≤ 100000 * 100002 := Nat.mul_le_mul_right _ (by omega)
    have c1 : appOkS (ofBytes out) [13, 10] 2 = true := by
      have : (out.length + 2) * 2 ≤ 70368744177664 := by omega
      simp only [appOkS, ofBytes_length, List.length_cons, List.length_nil]
      exact decide_eq_true this
    rw [List.drop_eq_nil_of_le (by omega), List.foldl_nil]
    simp only [T72_0, h1, decide_false, Bool.false_eq_true, if_false, chk_b c1, ofBytes_append]
    exact evt_some _
  | m + 1, i, out, h, hi, ho => by
    have hlt : i < l.length := by omega
    refine N72_0 (ofBytes b) (names.map V.str) but (ofBytes out) (l.map fdV) (l.length : Nat) (i : Nat) ?_
    have h1 : (((i : Nat) : Int) < ((l.length : Nat) : Int)) := by omega
    have h2 : (0 : Int) ≤ (i : Nat) := by omega
    have hw : IntKind.wrap .i64 (((i : Nat) : Int) + 1) = ((i + 1 : Nat) : Int) := by rw [wrap64 (by omega) (by omega)]; omega
    have hm : i * 100002 ≤ 100000 * 100002 := Nat.mul_le_mul_right _ (by omega)
    have hd : l.drop i = l[i] :: l.drop (i + 1) := List.drop_eq_getElem_cons hlt
    have hg := getD_fd hlt
    obtain ⟨f1, f4⟩ := hf _ (List.getElem_mem hlt)
    have hsl := stepS_len b names but out l[i]
    have hnext := loop72 b hb names hn hv but l hl hf m (i + 1) (stepS b names but out l[i]) (by omega) (by omega) (by omega)
    rw [hd, List.foldl_cons]
    generalize l[i] = f at *
    obtain ⟨x, p, q, r⟩ := f
    simp only at f1 f4
    simp only [T72_0, h1, decide_true, if_true, chk_p h2, List.length_map, chk_t, Int.toNat_natCast, hg, fdV, cells_agg, List.headD_cons, List.tail_cons, getS_str, getI_int, hw, ofBytes_length]
    refine evt_bind (ret93 x f1 (p : Nat) (q : Nat) (r : Nat) names hn hv) ?_
    dsimp +instances only [getB_bool, Ob.getC, List.headD_cons, List.tail_cons, getI_int]
    by_cases hin : hasN names x = but
    · have e1 : (hasN names x == but) = true := by simp [hin]
      have e2 : stepS b names but out (x, p, q, r) = out := by unfold stepS; rw [if_pos hin]
      simp only [e1, Bool.true_eq_false, if_false]
      rw [e2] at hnext ⊢
      exact hnext
    · have e1 : (hasN names x == but) = false := by simp [hin]
      simp only [e1, if_true]
      refine evt_bind (ret73 (p : Nat) (r : Nat) (b.length : Nat)) ?_
      simp only [getB_bool]
      by_cases hwi : p ≤ r ∧ r ≤ b.length
      · have k1 : (0 : Int) ≤ (p : Nat) ∧ ((p : Nat) : Int) ≤ (r : Nat) ∧ ((r : Nat) : Int) ≤ (b.length : Nat) := by omega
        have k2 : (0 : Int) ≤ (r : Nat) := by omega
        have c1 : appOk (ofBytes out) (ofBytes (subF b p r)) 2 = true := app_ok (by have := subF_le b p r; rw [ofBytes_length, ofBytes_length]; omega)
        have c2 : appOkS (ofBytes (out ++ subF b p r)) [13, 10] 2 = true := by
          have hs := subF_le b p r
          have : ((out ++ subF b p r).length + 2) * 2 ≤ 70368744177664 := by rw [List.length_append]; omega
          simp only [appOkS, ofBytes_length, List.length_cons, List.length_nil]
          exact decide_eq_true this
        simp only [decide_eq_true k1, Bool.not_true, Bool.false_eq_true, if_false, chk_p k2, chk_p k1.2.2, chk_p k1.1, chk_p k1.2.1, Int.toNat_natCast, ofB_sub, chk_b c1, ofBytes_append]
        refine evt_opt (v := decide (r = p ∨ b.getD (r - 1) 0 ≠ 10)) ?_ ?_
        · by_cases hrp : r = p
          · subst hrp; simp
          · have g1 : (((r : Nat) : Int) == ((p : Nat) : Int)) = false := by
              have : ¬ (((r : Nat) : Int) = ((p : Nat) : Int)) := by omega
              simpa using this
            obtain ⟨z, rfl⟩ : ∃ z, r = z + 1 := ⟨r - 1, by omega⟩
            have hwz : IntKind.wrap .i64 (((z + 1 : Nat) : Int) - 1) = ((z : Nat) : Int) := by rw [wrap64 (by omega) (by omega)]; omega
            have hzl : z < b.length := by omega
            have g2 : (0 : Int) ≤ (z : Nat) := by omega
            have g3 : ((z : Nat) : Int) < ((b.length : Nat) : Int) := by omega
            have g4 : (((b[z].toNat : Nat) : Int) != (10 : Int)) = decide (b[z] ≠ 10) := by
              by_cases hc : b[z] = 10
              · rw [hc]; rfl
              · have : ¬ (((b[z].toNat : Nat) : Int) = 10) := fun e => hc (UInt8.toNat_inj.1 (show b[z].toNat = 10 by omega))
                simp [hc, this]
            simp only [g1, if_true, hwz, chk_p g2, chk_p g3, Int.toNat_natCast, getD_by hzl, getI_int, g4, hrp, false_or, Nat.add_sub_cancel, getD_at hzl]
        · have e2 : stepS b names but out (x, p, q, r) = out ++ subF b p r ++ (if r = p ∨ b.getD (r - 1) 0 ≠ 10 then [13, 10] else []) := by
            unfold stepS; rw [if_neg hin, if_pos hwi]
          by_cases hnl : r = p ∨ b.getD (r - 1) 0 ≠ 10
          · rw [e2, if_pos hnl] at hnext ⊢
            simp only [decide_eq_true hnl, if_true, chk_b c2]
            exact hnext
          · rw [e2, if_neg hnl, List.append_nil] at hnext ⊢
            simp only [decide_eq_false hnl, Bool.false_eq_true, if_false]
            exact hnext
      · have k1 : ¬ ((0 : Int) ≤ (p : Nat) ∧ ((p : Nat) : Int) ≤ (r : Nat) ∧ ((r : Nat) : Int) ≤ (b.length : Nat)) := by omega
        have e2 : stepS b names but out (x, p, q, r) = out := by unfold stepS; rw [if_neg hin, if_neg hwi]
        simp only [decide_eq_false k1, Bool.not_false, if_true]
        rw [e2] at hnext ⊢
        exact hnext
theorem ret72 (b : Bs) (hb : b.length ≤ 100000) (names : List Bs) (hn : names.length ≤ 1000000) (hv : ∀ n ∈ names, n.length ≤ 1000000) (but : Bool) (l : List Fd) (hl : l.length ≤ 100000) (hf : ∀ f ∈ l, f.1.length ≤ 1000000 ∧ f.2.2.2 ≤ 1000000) :
    Ret 72 [.lst 5 false (ofBytes b), .lst 109 false (l.map fdV), .lst 9 false (names.map V.str), .bool but] [] (.lst 5 false (ofBytes (someF b l names but)), []) := by
  refine M72 (ofBytes b) (l.map fdV) (names.map V.str) but ?_
  simp only [T72, List.length_map]
  have := loop72 b hb names hn hv but l hl hf l.length 0 [] (by omega) (by omega) (by simp)
  rw [List.drop_zero] at this
  exact this
end Go.Proofs.YtemgbdncidgoiaaDoor
end
section
namespace Go.Proofs.YtemgbdncidgoiaaDoor
open Go.Ev Go
def Pt.kd : Pt → Nat | .mk k _ _ _ _ _ => k
def Pt.hd : Pt → Nat × Nat | .mk _ h _ _ _ _ => h
def Pt.bd : Pt → Nat × Nat | .mk _ _ b _ _ _ => b
def Pt.ks : Pt → List Pt | .mk _ _ _ l _ _ => l
def Pt.cs : Pt → List (Nat × Nat) | .mk _ _ _ _ c _ => c
def Pt.en : Pt → Nat × Nat | .mk _ _ _ _ _ e => e
def zeroP : Pt := leafP 0 0 0
theorem part_agg (p : Pt) : V.agg [.int .i64 (p.kd : Nat), .int .i64 (p.hd.1 : Nat), .int .i64 (p.hd.2 : Nat), .int .i64 (p.bd.1 : Nat), .int .i64 (p.bd.2 : Nat), .lst 28 false (p.ks.map partV), .lst 24 false (p.cs.map cutV), .int .i64 (p.en.1 : Nat), .int .i64 (p.en.2 : Nat)] = partV p := by
  cases p; rw [partV, partVL_eq]; rfl
theorem cells_part (p : Pt) : V.cells (partV p) = [.int .i64 (p.kd : Nat), .int .i64 (p.hd.1 : Nat), .int .i64 (p.hd.2 : Nat), .int .i64 (p.bd.1 : Nat), .int .i64 (p.bd.2 : Nat), .lst 28 false (p.ks.map partV), .lst 24 false (p.cs.map cutV), .int .i64 (p.en.1 : Nat), .int .i64 (p.en.2 : Nat)] := by
  rw [← part_agg]; rfl
theorem getD_ks {l : List Pt} {i : Nat} (h : i < l.length) : (l.map partV).getD i .bot = partV (l.getD i zeroP) := by simp [List.getD, h]
theorem cnt_mem : ∀ {l : List Pt} {q : Pt}, q ∈ l → cntF q ≤ cntL l
  | p :: r, q, h => by
    rw [cntL]
    rcases List.mem_cons.1 h with rfl | h
    · omega
    · have := cnt_mem h; omega
theorem cnt_ks (p : Pt) : cntF p = 1 + cntL p.ks := by cases p; rw [cntF]; rfl
theorem getD_mem {l : List Pt} {i : Nat} (h : i < l.length) : l.getD i zeroP ∈ l := by
  have : l.getD i zeroP = l[i] := by simp [List.getD, h]
  rw [this]; exact List.getElem_mem h
def belowF (p : Pt) (n : Int) : Option Pt := if p.kd = 1 then (if n < 1 ∨ (p.ks.length : Int) < n then none else some (p.ks.getD (n.toNat - 1) zeroP)) else if n = 1 then some p else none
def toldP (o : Option Pt) : V := .tup [partV (o.getD zeroP), .bool o.isSome]
theorem told_none : toldP none = .tup [.agg [.int .i64 0, .int .i64 0, .int .i64 0, .int .i64 0, .int .i64 0, .lst 28 false [], .lst 24 false [], .int .i64 0, .int .i64 0], .bool false] := by
  unfold toldP zeroP
  rw [show (none : Option Pt).getD (leafP 0 0 0) = leafP 0 0 0 from rfl, leaf_V]; rfl
theorem told_some (p : Pt) : toldP (some p) = .tup [partV p, .bool true] := rfl
theorem ret50 (p : Pt) (hc : cntF p ≤ 1000000) (n : Int) : Ret 50 [partV p, .int .i64 n] [] (toldP (belowF p n), []) := by
  have hkl := cntL_len p.ks
  have hk := cnt_ks p
  rw [← part_agg p]
  refine M50 (p.kd : Nat) (p.hd.1 : Nat) (p.hd.2 : Nat) (p.bd.1 : Nat) (p.bd.2 : Nat) (p.ks.map partV) (p.cs.map cutV) (p.en.1 : Nat) (p.en.2 : Nat) n ?_
  simp only [T50, List.length_map]
  unfold belowF
  by_cases hk1 : p.kd = 1
  · have g1 : (((p.kd : Nat) : Int) == (1 : Int)) = true := by rw [hk1]; rfl
    rw [if_pos hk1]
    simp only [g1, if_true]
    by_cases hn : n < 1 ∨ (p.ks.length : Int) < n
    · rw [if_pos hn, told_none]
      refine evt_opt (v := true) ?_ ?_
      · by_cases h1 : n < 1
        · simp [h1]
        · have h2 : n > ((p.ks.length : Nat) : Int) := by omega
          simp [h1, h2]
      · simp only [if_true]; exact evt_some _
    · rw [if_neg hn]
      have e1 : ¬ (n < 1) := by omega
      have e2 : ¬ (n > ((p.ks.length : Nat) : Int)) := by omega
      obtain ⟨N, rfl⟩ : ∃ N : Nat, n = ((N + 1 : Nat) : Int) := ⟨n.toNat - 1, by omega⟩
      have hlt : N < p.ks.length := by omega
      have hw : IntKind.wrap .i64 (((N + 1 : Nat) : Int) - 1) = ((N : Nat) : Int) := by rw [wrap64 (by omega) (by omega)]; omega
      have h2 : (0 : Int) ≤ (N : Nat) := by omega
      have h3 : ((N : Nat) : Int) < ((p.ks.length : Nat) : Int) := by omega
      refine evt_opt (v := false) ?_ ?_
      · simp only [e1, e2, decide_false, if_true]
      · simp only [Bool.false_eq_true, if_false, hw, chk_p h2, chk_p h3, Int.toNat_natCast, getD_ks hlt, eta_part, Nat.add_sub_cancel, told_some]
        exact evt_some _
  · have g1 : (((p.kd : Nat) : Int) == (1 : Int)) = false := by
      have : ¬ (((p.kd : Nat) : Int) = 1) := by omega
      simpa using this
    rw [if_neg hk1]
    simp only [g1, Bool.false_eq_true, if_false, part_agg]
    by_cases hn : n = 1
    · have g2 : (n == (1 : Int)) = true := by simp [hn]
      rw [if_pos hn, told_some]
      simp only [g2, if_true]
      exact evt_some _
    · have g2 : (n == (1 : Int)) = false := by simp [hn]
      rw [if_neg hn, told_none]
      simp only [g2, Bool.false_eq_true, if_false]
      exact evt_some _
def stepP (p : Pt) : Option Pt := if p.kd = 2 ∧ 0 < p.ks.length then some (p.ks.getD 0 zeroP) else if p.kd = 1 then some p else none
def findR : Pt → List Int → Option Pt
  | p, [] => some p
  | p, n :: r => match stepP p with
    | none => none
    | some q => match belowF q n with
      | none => none
      | some q' => findR q' r
def findP (p : Pt) : List Int → Option Pt
  | [] => none
  | n :: r => match belowF p n with
    | none => none
    | some q => findR q r
theorem below_cnt {p q : Pt} {n : Int} (h : belowF p n = some q) : cntF q ≤ cntF p := by
  unfold belowF at h
  split at h
  · split at h
    · cases h
    · rename_i hn
      cases h
      have := cnt_mem (getD_mem (l := p.ks) (i := n.toNat - 1) (by omega))
      rw [cnt_ks p]; omega
  · split at h
    · cases h; omega
    · cases h
theorem step_cnt {p q : Pt} (h : stepP p = some q) : cntF q ≤ cntF p := by
  unfold stepP at h
  split at h
  · rename_i hk
    cases h
    have := cnt_mem (getD_mem (l := p.ks) (i := 0) hk.2)
    rw [cnt_ks p]; omega
  · split at h
    · cases h; omega
    · cases h
noncomputable def LA (call : FuncId → Go.Ev.Fun) (j : Nat) (is : Bool) (path : List Int) (i : Int) (p : Pt) : Option (V × List Ob) :=
  L36 call j is (path.map pathV) (path.length : Nat) i (p.kd : Nat) (p.hd.1 : Nat) (p.hd.2 : Nat) (p.bd.1 : Nat) (p.bd.2 : Nat) (p.ks.map partV) (p.cs.map cutV) (p.en.1 : Nat) (p.en.2 : Nat) 0 0 0 0 0 [] [] 0 0
theorem getD_path {l : List Int} {i : Nat} (h : i < l.length) : (l.map pathV).getD i .bot = .int .i64 l[i] := by simp [List.getD, h, pathV]
theorem loop36 (path : List Int) (hpl : path.length ≤ 1000000) : ∀ (m i : Nat) (p : Pt), path.length - i = m → i ≤ path.length → 0 < i → cntF p ≤ 1000000 →
    Evt (fun k j => LA (callN cfg k) j true path (i : Nat) p) (toldP (findR p (path.drop i)), [])
  | 0, i, p, h, hi, h0, hc => by
    refine N36_0 true (path.map pathV) (path.length : Nat) (i : Nat) (p.kd : Nat) (p.hd.1 : Nat) (p.hd.2 : Nat) (p.bd.1 : Nat) (p.bd.2 : Nat) (p.ks.map partV) (p.cs.map cutV) (p.en.1 : Nat) (p.en.2 : Nat) 0 0 0 0 0 [] [] 0 0 ?_
    have h1 : ¬ (((i : Nat) : Int) < ((path.length : Nat) : Int)) := by omega
    rw [List.drop_eq_nil_of_le (by omega), findR, told_some]
    simp only [T36_0, h1, decide_false, Bool.false_eq_true, if_false, Bool.not_true, part_agg]
    exact evt_some _
  | m + 1, i, p, h, hi, h0, hc => by
    have hlt : i < path.length := by omega
    refine N36_0 true (path.map pathV) (path.length : Nat) (i : Nat) (p.kd : Nat) (p.hd.1 : Nat) (p.hd.2 : Nat) (p.bd.1 : Nat) (p.bd.2 : Nat) (p.ks.map partV) (p.cs.map cutV) (p.en.1 : Nat) (p.en.2 : Nat) 0 0 0 0 0 [] [] 0 0 ?_
    have h1 : (((i : Nat) : Int) < ((path.length : Nat) : Int)) := by omega
    have h2 : (0 : Int) ≤ (i : Nat) := by omega
    have h3 : ((i : Nat) : Int) > 0 := by omega
    have hw : IntKind.wrap .i64 (((i : Nat) : Int) + 1) = ((i + 1 : Nat) : Int) := by rw [wrap64 (by omega) (by omega)]; omega
    have hd : path.drop i = path[i] :: path.drop (i + 1) := List.drop_eq_getElem_cons hlt
    rw [hd, findR]
    simp only [T36_0, h1, decide_true, if_true, chk_p h2, List.length_map, chk_t, h3, Int.toNat_natCast, getD_path hlt, getI_int, hw, part_agg]
    by_cases hk : p.kd = 2 ∧ 0 < p.ks.length
    · have g1 : (((p.kd : Nat) : Int) == (2 : Int)) = true := by rw [hk.1]; rfl
      have g2 : ((p.ks.length : Nat) : Int) > 0 := by omega
      have g3 : (0 : Int) < ((p.ks.length : Nat) : Int) := by omega
      have hs : stepP p = some (p.ks.getD 0 zeroP) := by unfold stepP; rw [if_pos hk]
      have hsc := step_cnt hs
      refine evt_opt (v := true) (by simp only [g1, g2, if_true, decide_true]) ?_
      simp only [if_true, chk_p (Int.le_refl 0), chk_p g3, Int.toNat_zero, getD_ks hk.2, eta_part, hs]
      refine evt_bind (ret50 (p.ks.getD 0 zeroP) (by omega) path[i]) ?_
      cases hbl : belowF (p.ks.getD 0 zeroP) path[i] with
      | none =>
        simp only [told_none, getT_tup, List.headD_cons, List.tail_cons, getB_bool, Bool.not_false, if_true]
        exact evt_some _
      | some q =>
        have hqc := below_cnt hbl
        simp only [told_some, getT_tup, List.headD_cons, List.tail_cons, getB_bool, Bool.not_true, Bool.false_eq_true, if_false, cells_part, getI_int, getL_lst]
        exact loop36 path hpl m (i + 1) q (by omega) (by omega) (by omega) (by omega)
    · refine evt_opt (v := false) ?_ ?_
      · by_cases g : p.kd = 2
        · have g1 : (((p.kd : Nat) : Int) == (2 : Int)) = true := by rw [g]; rfl
          have g2 : ¬ (((p.ks.length : Nat) : Int) > 0) := by omega
          simp only [g1, g2, if_true, decide_false]
        · have g1 : (((p.kd : Nat) : Int) == (2 : Int)) = false := by
            have : ¬ (((p.kd : Nat) : Int) = 2) := by omega
            simpa using this
          simp only [g1, Bool.false_eq_true, if_false]
      · simp only [Bool.false_eq_true, if_false]
        by_cases hk1 : p.kd = 1
        · have g1 : (((p.kd : Nat) : Int) != (1 : Int)) = false := by rw [hk1]; rfl
          have hs : stepP p = some p := by unfold stepP; rw [if_neg hk, if_pos hk1]
          simp only [g1, Bool.false_eq_true, if_false, hs]
          refine evt_bind (ret50 p hc path[i]) ?_
          cases hbl : belowF p path[i] with
          | none =>
            simp only [told_none, getT_tup, List.headD_cons, List.tail_cons, getB_bool, Bool.not_false, if_true]
            exact evt_some _
          | some q =>
            have hqc := below_cnt hbl
            simp only [told_some, getT_tup, List.headD_cons, List.tail_cons, getB_bool, Bool.not_true, Bool.false_eq_true, if_false, cells_part, getI_int, getL_lst]
            exact loop36 path hpl m (i + 1) q (by omega) (by omega) (by omega) (by omega)
        · have g1 : (((p.kd : Nat) : Int) != (1 : Int)) = true := by
            have : ¬ (((p.kd : Nat) : Int) = 1) := by omega
            simpa using this
          have hs : stepP p = none := by unfold stepP; rw [if_neg hk, if_neg hk1]
          simp only [g1, if_true, Bool.not_false, hs, told_none]
          exact evt_some _
theorem ret36 (p : Pt) (hc : cntF p ≤ 1000000) (path : List Int) (hpl : path.length ≤ 1000000) : Ret 36 [partV p, .lst 3 false (path.map pathV)] [] (toldP (findP p path), []) := by
  rw [← part_agg p]
  refine M36 (p.kd : Nat) (p.hd.1 : Nat) (p.hd.2 : Nat) (p.bd.1 : Nat) (p.bd.2 : Nat) (p.ks.map partV) (p.cs.map cutV) (p.en.1 : Nat) (p.en.2 : Nat) (path.map pathV) ?_
  simp only [T36, List.length_map]
  refine N36_0 false (path.map pathV) (path.length : Nat) 0 (p.kd : Nat) (p.hd.1 : Nat) (p.hd.2 : Nat) (p.bd.1 : Nat) (p.bd.2 : Nat) (p.ks.map partV) (p.cs.map cutV) (p.en.1 : Nat) (p.en.2 : Nat) 0 0 0 0 0 [] [] 0 0 ?_
  cases path with
  | nil =>
    have h1 : ¬ ((0 : Int) < ((([] : List Int).length : Nat) : Int)) := by simp
    rw [findP, told_none]
    simp only [T36_0, h1, decide_false, Bool.false_eq_true, if_false, Bool.not_false, if_true]
    exact evt_some _
  | cons n r =>
    have h1 : ((0 : Int) < (((n :: r).length : Nat) : Int)) := by simp only [List.length_cons]; omega
    have h3 : ¬ ((0 : Int) > 0) := by omega
    have hw : IntKind.wrap .i64 ((0 : Int) + 1) = ((0 + 1 : Nat) : Int) := by rw [wrap64 (by omega) (by omega)]; rfl
    have hg : ((n :: r).map pathV).getD 0 .bot = .int .i64 n := rfl
    rw [findP]
    simp only [T36_0, h1, decide_true, if_true, chk_p (Int.le_refl 0), List.length_map, chk_t, h3, decide_false, Bool.false_eq_true, if_false, Int.toNat_zero, hg, getI_int, hw, part_agg]
    refine evt_bind (ret50 p hc n) ?_
    cases hbl : belowF p n with
    | none =>
      simp only [told_none, getT_tup, List.headD_cons, List.tail_cons, getB_bool, Bool.not_false, if_true]
      exact evt_some _
    | some q =>
      have hqc := below_cnt hbl
      simp only [told_some, getT_tup, List.headD_cons, List.tail_cons, getB_bool, Bool.not_true, Bool.false_eq_true, if_false, cells_part, getI_int, getL_lst]
      exact loop36 (n :: r) hpl r.length 1 q (by simp) (by simp) (by omega) (by omega)
def messageF (b : Bs) (p : Pt) (s : Sp) : Bs :=
  if s.what = 0 then bytesF b p.hd.1 p.bd.2 else if s.what = 1 then bytesF b p.hd.1 p.hd.2 else if s.what = 4 then bytesF b p.bd.1 p.bd.2 else
  if s.what = 3 then someF b (headF b (p.hd.1 : Nat) (p.hd.2 : Nat)).1 s.names true else if s.what = 2 then someF b (headF b (p.hd.1 : Nat) (p.hd.2 : Nat)).1 s.names false else []
def allF (b : Bs) (p : Pt) (s : Sp) : Bs :=
  if checkF s then (if s.path.length = 0 then messageF b p s else match findP p s.path with
    | none => []
    | some q => if s.what = 0 then bytesF b q.bd.1 q.bd.2 else if s.what = 5 then bytesF b q.hd.1 q.hd.2 else if q.kd = 2 ∧ 0 < q.ks.length then messageF b (q.ks.getD 0 zeroP) s else [])
  else []
def cutB (o : Bs) (fr many : Int) : Bs := if fr < 0 ∨ (o.length : Int) < fr ∨ many < 1 then [] else subF o fr.toNat (fr.toNat + min many.toNat (o.length - fr.toNat))
def getsF (b : Bs) (p : Pt) (s : Sp) : Bs := if s.cut then cutB (allF b p s) s.fr s.many else allF b p s
def SpOk (s : Sp) : Prop := s.names.length ≤ 1000000 ∧ (∀ n ∈ s.names, n.length ≤ 1000000) ∧ s.path.length ≤ 1000000
theorem beq_dec (x y : Int) : (x == y) = decide (x = y) := by by_cases h : x = y <;> simp [h]
theorem ret52 (b : Bs) (hb : b.length ≤ 100000) (p : Pt) (s : Sp) (hs : SpOk s) : Ret 52 [.lst 5 false (ofBytes b), partV p, specV s] [] (.lst 5 false (ofBytes (messageF b p s)), []) := by
  rw [← part_agg p]
  refine M52 (ofBytes b) (p.kd : Nat) (p.hd.1 : Nat) (p.hd.2 : Nat) (p.bd.1 : Nat) (p.bd.2 : Nat) (p.ks.map partV) (p.cs.map cutV) (p.en.1 : Nat) (p.en.2 : Nat) (s.path.map pathV) s.what (s.names.map V.str) s.cut s.fr s.many ?_
  obtain ⟨k1, k2⟩ := headF_ok b (p.hd.1 : Nat) (p.hd.2 : Nat)
  have k3 := headF_in b p.hd.1 p.hd.2
  simp only [T52, beq_dec]
  unfold messageF
  by_cases w0 : s.what = 0
  · simp only [w0, decide_true, if_true]
    refine evt_bind (ret53 b (by omega) _ _) ?_
    simp only [getL_lst]; exact evt_some _
  by_cases w1 : s.what = 1
  · simp only [w0, w1, decide_true, decide_false, Bool.false_eq_true, if_true, if_false]
    refine evt_bind (ret53 b (by omega) _ _) ?_
    simp only [getL_lst]; exact evt_some _
  by_cases w4 : s.what = 4
  · simp only [w0, w1, w4, decide_true, decide_false, Bool.false_eq_true, if_true, if_false]
    refine evt_bind (ret53 b (by omega) _ _) ?_
    simp only [getL_lst]; exact evt_some _
  by_cases w3 : s.what = 3
  · simp only [w0, w1, w4, w3, decide_true, decide_false, Bool.false_eq_true, if_true, if_false]
    refine evt_bind (ret39 b (by omega) (p.hd.1 : Nat) (p.hd.2 : Nat)) ?_
    simp only [getT_tup, List.headD_cons, getL_lst]
    refine evt_bind (ret72 b hb s.names hs.1 hs.2.1 true _ (by omega) (fun f hf => ⟨by have := k1 f hf; omega, by have := k3 f hf; omega⟩)) ?_
    simp only [getL_lst]; exact evt_some _
  by_cases w2 : s.what = 2
  · simp only [w0, w1, w4, w3, w2, decide_true, decide_false, Bool.false_eq_true, if_true, if_false]
    refine evt_bind (ret39 b (by omega) (p.hd.1 : Nat) (p.hd.2 : Nat)) ?_
    simp only [getT_tup, List.headD_cons, getL_lst]
    refine evt_bind (ret72 b hb s.names hs.1 hs.2.1 false _ (by omega) (fun f hf => ⟨by have := k1 f hf; omega, by have := k3 f hf; omega⟩)) ?_
    simp only [getL_lst]; exact evt_some _
  · simp only [w0, w1, w4, w3, w2, decide_false, Bool.false_eq_true, if_false]
    exact evt_some _
theorem spec_agg (s : Sp) : V.agg [.lst 3 false (s.path.map pathV), .int .i64 s.what, .lst 9 false (s.names.map V.str), .bool s.cut, .int .i64 s.fr, .int .i64 s.many] = specV s := rfl
theorem ret37 (b : Bs) (hb : b.length ≤ 100000) (p : Pt) (hc : cntF p ≤ 1000000) (s : Sp) (hs : SpOk s) : Ret 37 [.lst 5 false (ofBytes b), partV p, specV s] [] (.lst 5 false (ofBytes (allF b p s)), []) := by
  rw [← part_agg p]
  refine M37 (ofBytes b) (p.kd : Nat) (p.hd.1 : Nat) (p.hd.2 : Nat) (p.bd.1 : Nat) (p.bd.2 : Nat) (p.ks.map partV) (p.cs.map cutV) (p.en.1 : Nat) (p.en.2 : Nat) (s.path.map pathV) s.what (s.names.map V.str) s.cut s.fr s.many ?_
  simp only [T37, part_agg, spec_agg, List.length_map]
  refine evt_bind (ret51 s hs.1 hs.2.1 hs.2.2) ?_
  unfold allF
  cases hck : checkF s with
  | false =>
    have g : ((1 : Int) != (0 : Int)) = true := rfl
    simp only [Bool.false_eq_true, if_false, getI_int, g, if_true]
    exact evt_some _
  | true =>
    have g : ((0 : Int) != (0 : Int)) = false := rfl
    simp only [if_true, getI_int, g, Bool.false_eq_true, if_false]
    by_cases hp0 : s.path.length = 0
    · have g1 : (((s.path.length : Nat) : Int) == (0 : Int)) = true := by rw [hp0]; rfl
      simp only [g1, if_true, if_pos hp0]
      refine evt_bind (ret52 b hb p s hs) ?_
      simp only [getL_lst]; exact evt_some _
    · have g1 : (((s.path.length : Nat) : Int) == (0 : Int)) = false := by
        have : ¬ (((s.path.length : Nat) : Int) = 0) := by omega
        simpa using this
      simp only [g1, Bool.false_eq_true, if_false, if_neg hp0]
      refine evt_bind (ret36 p hc s.path hs.2.2) ?_
      cases hf : findP p s.path with
      | none =>
        simp only [told_none, getT_tup, List.headD_cons, List.tail_cons, getB_bool, Bool.not_false, if_true]
        exact evt_some _
      | some q =>
        simp only [told_some, getT_tup, List.headD_cons, List.tail_cons, getB_bool, Bool.not_true, Bool.false_eq_true, if_false, cells_part, getI_int, getL_lst, beq_dec, List.length_map]
        by_cases w0 : s.what = 0
        · simp only [w0, decide_true, if_true]
          refine evt_bind (ret53 b (by omega) _ _) ?_
          simp only [getL_lst]; exact evt_some _
        by_cases w5 : s.what = 5
        · simp only [w0, w5, decide_true, decide_false, Bool.false_eq_true, if_true, if_false]
          refine evt_bind (ret53 b (by omega) _ _) ?_
          simp only [getL_lst]; exact evt_some _
        · simp only [w0, w5, decide_false, Bool.false_eq_true, if_false]
          by_cases hk : q.kd = 2 ∧ 0 < q.ks.length
          · have g2 : ((q.ks.length : Nat) : Int) > 0 := by omega
            have g3 : (0 : Int) < ((q.ks.length : Nat) : Int) := by omega
            have g4 : (((q.kd : Nat) : Int) = 2) := by omega
            rw [if_pos hk]
            refine evt_opt (v := true) (by simp only [g4, g2, if_true, decide_true]) ?_
            simp only [if_true, chk_p (Int.le_refl 0), chk_p g3, Int.toNat_zero, getD_ks hk.2, eta_part]
            refine evt_bind (ret52 b hb _ s hs) ?_
            simp only [getL_lst]; exact evt_some _
          · rw [if_neg hk]
            refine evt_opt (v := false) ?_ ?_
            · by_cases g : q.kd = 2
              · have g1 : (((q.kd : Nat) : Int) = 2) := by omega
                have g2 : ¬ (((q.ks.length : Nat) : Int) > 0) := by omega
                simp only [g1, g2, if_true, decide_true, decide_false]
              · have g1 : ¬ (((q.kd : Nat) : Int) = 2) := by omega
                simp only [g1, decide_false, Bool.false_eq_true, if_false]
            · simp only [Bool.false_eq_true, if_false]
              exact evt_some _
theorem ret38 (o : Bs) (ho : o.length ≤ 1000000000) (fr many : Int) : Ret 38 [.lst 5 false (ofBytes o), .int .i64 fr, .int .i64 many] [] (.lst 5 false (ofBytes (cutB o fr many)), []) := by
  refine M38 (ofBytes o) fr many ?_
  simp only [T38, ofBytes_length]
  unfold cutB
  by_cases h : fr < 0 ∨ (o.length : Int) < fr ∨ many < 1
  · rw [if_pos h]
    refine evt_opt (v := true) ?_ ?_
    · by_cases h1 : fr < 0
      · simp [h1]
      · by_cases h2 : fr > ((o.length : Nat) : Int)
        · simp [h1, h2]
        · have h3 : many < 1 := by omega
          simp [h1, h2, h3]
    · simp only [if_true]; exact evt_some _
  · rw [if_neg h]
    have e1 : ¬ (fr < 0) := by omega
    have e2 : ¬ (fr > ((o.length : Nat) : Int)) := by omega
    have e3 : ¬ (many < 1) := by omega
    obtain ⟨F, rfl⟩ : ∃ F : Nat, fr = F := ⟨fr.toNat, by omega⟩
    obtain ⟨M, rfl⟩ : ∃ M : Nat, many = M := ⟨many.toNat, by omega⟩
    have hw1 : IntKind.wrap .i64 (((o.length : Nat) : Int) - ((F : Nat) : Int)) = ((o.length - F : Nat) : Int) := by rw [wrap64 (by omega) (by omega)]; omega
    have hmin : (if ((o.length - F : Nat) : Int) < ((M : Nat) : Int) then ((o.length - F : Nat) : Int) else ((M : Nat) : Int)) = ((min M (o.length - F) : Nat) : Int) := by split <;> omega
    have hw2 : IntKind.wrap .i64 (((F : Nat) : Int) + ((min M (o.length - F) : Nat) : Int)) = ((F + min M (o.length - F) : Nat) : Int) := by rw [wrap64 (by omega) (by omega)]; omega
    have k1 : (0 : Int) ≤ ((F + min M (o.length - F) : Nat) : Int) := by omega
    have k2 : ((F + min M (o.length - F) : Nat) : Int) ≤ ((o.length : Nat) : Int) := by omega
    have k3 : (0 : Int) ≤ ((F : Nat) : Int) := by omega
    have k4 : ((F : Nat) : Int) ≤ ((F + min M (o.length - F) : Nat) : Int) := by omega
    refine evt_opt (v := false) (by simp only [e1, e2, e3, decide_false, if_true]) ?_
    simp only [Bool.false_eq_true, if_false, hw1, hmin, hw2, chk_p k1, chk_p k2, chk_p k3, chk_p k4, Int.toNat_natCast, ofB_sub]
    refine evt_bind (ret54 _ (by have := subF_le o F (F + min M (o.length - F)); omega)) ?_
    simp only [getL_lst]; exact evt_some _
theorem messageF_le (b : Bs) (p : Pt) (s : Sp) : (messageF b p s).length ≤ b.length + (b.length + 2) * b.length + 2 := by
  have hsome : ∀ but, (someF b (headF b (p.hd.1 : Nat) (p.hd.2 : Nat)).1 s.names but).length ≤ (b.length + 2) * b.length + 2 := by
    intro but
    obtain ⟨_, k2⟩ := headF_ok b (p.hd.1 : Nat) (p.hd.2 : Nat)
    have hf : ∀ (l : List Fd) (out : Bs), (l.foldl (stepS b s.names but) out).length ≤ out.length + (b.length + 2) * l.length := by
      intro l
      induction l with
      | nil => intro out; simp
      | cons f r ih =>
        intro out
        have h1 := ih (stepS b s.names but out f)
        have h2 := stepS_len b s.names but out f
        rw [List.foldl_cons, List.length_cons, Nat.mul_add, Nat.mul_one]
        omega
    have h1 := hf (headF b (p.hd.1 : Nat) (p.hd.2 : Nat)).1 []
    have h2 : (b.length + 2) * (headF b (p.hd.1 : Nat) (p.hd.2 : Nat)).1.length ≤ (b.length + 2) * b.length := Nat.mul_le_mul_left _ k2
    unfold someF
    rw [List.length_append]
    simp only [List.length_nil, List.length_cons] at h1 ⊢
    omega
  unfold messageF
  split
  · have := bytesF_le b p.hd.1 p.bd.2; omega
  split
  · have := bytesF_le b p.hd.1 p.hd.2; omega
  split
  · have := bytesF_le b p.bd.1 p.bd.2; omega
  split
  · have := hsome true; omega
  split
  · have := hsome false; omega
  · simp
theorem allF_le (b : Bs) (p : Pt) (s : Sp) : (allF b p s).length ≤ b.length + (b.length + 2) * b.length + 2 := by
  unfold allF
  split
  · split
    · exact messageF_le b p s
    · split
      · simp
      · rename_i q _
        split
        · have := bytesF_le b q.bd.1 q.bd.2; omega
        split
        · have := bytesF_le b q.hd.1 q.hd.2; omega
        split
        · exact messageF_le b _ s
        · simp
  · simp
theorem ret28 (b : Bs) (hb : b.length ≤ 3000) (p : Pt) (hc : cntF p ≤ 1000000) (s : Sp) (hs : SpOk s) : Ret 28 [.lst 5 false (ofBytes b), partV p, specV s] [] (.lst 5 false (ofBytes (getsF b p s)), []) := by
  have hle := allF_le b p s
  have hle2 : (b.length + 2) * b.length ≤ 3002 * 3000 := Nat.mul_le_mul (by omega) hb
  rw [← part_agg p]
  refine M28 (ofBytes b) (p.kd : Nat) (p.hd.1 : Nat) (p.hd.2 : Nat) (p.bd.1 : Nat) (p.bd.2 : Nat) (p.ks.map partV) (p.cs.map cutV) (p.en.1 : Nat) (p.en.2 : Nat) (s.path.map pathV) s.what (s.names.map V.str) s.cut s.fr s.many ?_
  simp only [T28, part_agg, spec_agg]
  refine evt_bind (ret37 b (by omega) p hc s hs) ?_
  simp only [getL_lst]
  unfold getsF
  cases s.cut with
  | true =>
    simp only [if_true]
    refine evt_bind (ret38 (allF b p s) (by omega) s.fr s.many) ?_
    simp only [getL_lst]; exact evt_some _
  | false =>
    simp only [Bool.false_eq_true, if_false]
    exact evt_some _
end Go.Proofs.YtemgbdncidgoiaaDoor
end
section
namespace Go.Proofs.YtemgbdncidgoiaaDoor
open Go.Ev Go
open List (headD tail getD length drop take)
open V (getI getL getT getS getB)
set_option maxRecDepth 100000
variable (call : FuncId → Fun) (icall : ICall (V × List Ob)) (again : List It → St → Option (V × List Ob))
def T27 (call : FuncId → Fun) : Option (V × List Ob) :=
 Option.bind (call 15 [(V.lst 5 false [(V.int .u8 67), (V.int .u8 111), (V.int .u8 110), (V.int .u8 116), (V.int .u8 101), (V.int .u8 110), (V.int .u8 116), (V.int .u8 45), (V.int .u8 84), (V.int .u8 121), (V.int .u8 112), (V.int .u8 101), (V.int .u8 58), (V.int .u8 32), (V.int .u8 109), (V.int .u8 117), (V.int .u8 108), (V.int .u8 116), (V.int .u8 105), (V.int .u8 112), (V.int .u8 97), (V.int .u8 114), (V.int .u8 116), (V.int .u8 47), (V.int .u8 109), (V.int .u8 105), (V.int .u8 120), (V.int .u8 101), (V.int .u8 100), (V.int .u8 59), (V.int .u8 32), (V.int .u8 98), (V.int .u8 111), (V.int .u8 117), (V.int .u8 110), (V.int .u8 100), (V.int .u8 97), (V.int .u8 114), (V.int .u8 121), (V.int .u8 61), (V.int .u8 98), (V.int .u8 13), (V.int .u8 10), (V.int .u8 13), (V.int .u8 10), (V.int .u8 112), (V.int .u8 114), (V.int .u8 101), (V.int .u8 13), (V.int .u8 10), (V.int .u8 45), (V.int .u8 45), (V.int .u8 98), (V.int .u8 13), (V.int .u8 10), (V.int .u8 13), (V.int .u8 10), (V.int .u8 111), (V.int .u8 110), (V.int .u8 101), (V.int .u8 13), (V.int .u8 10), (V.int .u8 45), (V.int .u8 45), (V.int .u8 98), (V.int .u8 13), (V.int .u8 10), (V.int .u8 67), (V.int .u8 111), (V.int .u8 110), (V.int .u8 116), (V.int .u8 101), (V.int .u8 110), (V.int .u8 116), (V.int .u8 45), (V.int .u8 84), (V.int .u8 121), (V.int .u8 112), (V.int .u8 101), (V.int .u8 58), (V.int .u8 32), (V.int .u8 109), (V.int .u8 101), (V.int .u8 115), (V.int .u8 115), (V.int .u8 97), (V.int .u8 103), (V.int .u8 101), (V.int .u8 47), (V.int .u8 114), (V.int .u8 102), (V.int .u8 99), (V.int .u8 56), (V.int .u8 50), (V.int .u8 50), (V.int .u8 13), (V.int .u8 10), (V.int .u8 13), (V.int .u8 10), (V.int .u8 83), (V.int .u8 117), (V.int .u8 98), (V.int .u8 106), (V.int .u8 101), (V.int .u8 99), (V.int .u8 116), (V.int .u8 58), (V.int .u8 32), (V.int .u8 115), (V.int .u8 13), (V.int .u8 10), (V.int .u8 13), (V.int .u8 10), (V.int .u8 116), (V.int .u8 119), (V.int .u8 111), (V.int .u8 13), (V.int .u8 10), (V.int .u8 45), (V.int .u8 45), (V.int .u8 98), (V.int .u8 45), (V.int .u8 45), (V.int .u8 13), (V.int .u8 10), (V.int .u8 112), (V.int .u8 111), (V.int .u8 115), (V.int .u8 116)])] []) fun z0 =>
 Option.bind (call 28 [(V.lst 5 false [(V.int .u8 67), (V.int .u8 111), (V.int .u8 110), (V.int .u8 116), (V.int .u8 101), (V.int .u8 110), (V.int .u8 116), (V.int .u8 45), (V.int .u8 84), (V.int .u8 121), (V.int .u8 112), (V.int .u8 101), (V.int .u8 58), (V.int .u8 32), (V.int .u8 109), (V.int .u8 117), (V.int .u8 108), (V.int .u8 116), (V.int .u8 105), (V.int .u8 112), (V.int .u8 97), (V.int .u8 114), (V.int .u8 116), (V.int .u8 47), (V.int .u8 109), (V.int .u8 105), (V.int .u8 120), (V.int .u8 101), (V.int .u8 100), (V.int .u8 59), (V.int .u8 32), (V.int .u8 98), (V.int .u8 111), (V.int .u8 117), (V.int .u8 110), (V.int .u8 100), (V.int .u8 97), (V.int .u8 114), (V.int .u8 121), (V.int .u8 61), (V.int .u8 98), (V.int .u8 13), (V.int .u8 10), (V.int .u8 13), (V.int .u8 10), (V.int .u8 112), (V.int .u8 114), (V.int .u8 101), (V.int .u8 13), (V.int .u8 10), (V.int .u8 45), (V.int .u8 45), (V.int .u8 98), (V.int .u8 13), (V.int .u8 10), (V.int .u8 13), (V.int .u8 10), (V.int .u8 111), (V.int .u8 110), (V.int .u8 101), (V.int .u8 13), (V.int .u8 10), (V.int .u8 45), (V.int .u8 45), (V.int .u8 98), (V.int .u8 13), (V.int .u8 10), (V.int .u8 67), (V.int .u8 111), (V.int .u8 110), (V.int .u8 116), (V.int .u8 101), (V.int .u8 110), (V.int .u8 116), (V.int .u8 45), (V.int .u8 84), (V.int .u8 121), (V.int .u8 112), (V.int .u8 101), (V.int .u8 58), (V.int .u8 32), (V.int .u8 109), (V.int .u8 101), (V.int .u8 115), (V.int .u8 115), (V.int .u8 97), (V.int .u8 103), (V.int .u8 101), (V.int .u8 47), (V.int .u8 114), (V.int .u8 102), (V.int .u8 99), (V.int .u8 56), (V.int .u8 50), (V.int .u8 50), (V.int .u8 13), (V.int .u8 10), (V.int .u8 13), (V.int .u8 10), (V.int .u8 83), (V.int .u8 117), (V.int .u8 98), (V.int .u8 106), (V.int .u8 101), (V.int .u8 99), (V.int .u8 116), (V.int .u8 58), (V.int .u8 32), (V.int .u8 115), (V.int .u8 13), (V.int .u8 10), (V.int .u8 13), (V.int .u8 10), (V.int .u8 116), (V.int .u8 119), (V.int .u8 111), (V.int .u8 13), (V.int .u8 10), (V.int .u8 45), (V.int .u8 45), (V.int .u8 98), (V.int .u8 45), (V.int .u8 45), (V.int .u8 13), (V.int .u8 10), (V.int .u8 112), (V.int .u8 111), (V.int .u8 115), (V.int .u8 116)]), (V.agg [(V.int .i64 (getI (headD (V.cells (headD (getT z0.1) V.bot)) V.bot))), (V.int .i64 (getI (headD (tail (V.cells (headD (getT z0.1) V.bot))) V.bot))), (V.int .i64 (getI (headD (tail (tail (V.cells (headD (getT z0.1) V.bot)))) V.bot))), (V.int .i64 (getI (headD (tail (tail (tail (V.cells (headD (getT z0.1) V.bot))))) V.bot))), (V.int .i64 (getI (headD (tail (tail (tail (tail (V.cells (headD (getT z0.1) V.bot)))))) V.bot))), (V.lst 28 false (getL (headD (tail (tail (tail (tail (tail (V.cells (headD (getT z0.1) V.bot))))))) V.bot))), (V.lst 24 false (getL (headD (tail (tail (tail (tail (tail (tail (V.cells (headD (getT z0.1) V.bot)))))))) V.bot))), (V.int .i64 (getI (headD (tail (tail (tail (tail (tail (tail (tail (V.cells (headD (getT z0.1) V.bot))))))))) V.bot))), (V.int .i64 (getI (headD (tail (tail (tail (tail (tail (tail (tail (tail (V.cells (headD (getT z0.1) V.bot)))))))))) V.bot)))]), (V.agg [(V.lst 3 false [(V.int .i64 1)]), (V.int .i64 0), (V.lst 9 false []), (V.bool false), (V.int .i64 0), (V.int .i64 0)])] []) fun z1 =>
 Option.bind (call 28 [(V.lst 5 false [(V.int .u8 67), (V.int .u8 111), (V.int .u8 110), (V.int .u8 116), (V.int .u8 101), (V.int .u8 110), (V.int .u8 116), (V.int .u8 45), (V.int .u8 84), (V.int .u8 121), (V.int .u8 112), (V.int .u8 101), (V.int .u8 58), (V.int .u8 32), (V.int .u8 109), (V.int .u8 117), (V.int .u8 108), (V.int .u8 116), (V.int .u8 105), (V.int .u8 112), (V.int .u8 97), (V.int .u8 114), (V.int .u8 116), (V.int .u8 47), (V.int .u8 109), (V.int .u8 105), (V.int .u8 120), (V.int .u8 101), (V.int .u8 100), (V.int .u8 59), (V.int .u8 32), (V.int .u8 98), (V.int .u8 111), (V.int .u8 117), (V.int .u8 110), (V.int .u8 100), (V.int .u8 97), (V.int .u8 114), (V.int .u8 121), (V.int .u8 61), (V.int .u8 98), (V.int .u8 13), (V.int .u8 10), (V.int .u8 13), (V.int .u8 10), (V.int .u8 112), (V.int .u8 114), (V.int .u8 101), (V.int .u8 13), (V.int .u8 10), (V.int .u8 45), (V.int .u8 45), (V.int .u8 98), (V.int .u8 13), (V.int .u8 10), (V.int .u8 13), (V.int .u8 10), (V.int .u8 111), (V.int .u8 110), (V.int .u8 101), (V.int .u8 13), (V.int .u8 10), (V.int .u8 45), (V.int .u8 45), (V.int .u8 98), (V.int .u8 13), (V.int .u8 10), (V.int .u8 67), (V.int .u8 111), (V.int .u8 110), (V.int .u8 116), (V.int .u8 101), (V.int .u8 110), (V.int .u8 116), (V.int .u8 45), (V.int .u8 84), (V.int .u8 121), (V.int .u8 112), (V.int .u8 101), (V.int .u8 58), (V.int .u8 32), (V.int .u8 109), (V.int .u8 101), (V.int .u8 115), (V.int .u8 115), (V.int .u8 97), (V.int .u8 103), (V.int .u8 101), (V.int .u8 47), (V.int .u8 114), (V.int .u8 102), (V.int .u8 99), (V.int .u8 56), (V.int .u8 50), (V.int .u8 50), (V.int .u8 13), (V.int .u8 10), (V.int .u8 13), (V.int .u8 10), (V.int .u8 83), (V.int .u8 117), (V.int .u8 98), (V.int .u8 106), (V.int .u8 101), (V.int .u8 99), (V.int .u8 116), (V.int .u8 58), (V.int .u8 32), (V.int .u8 115), (V.int .u8 13), (V.int .u8 10), (V.int .u8 13), (V.int .u8 10), (V.int .u8 116), (V.int .u8 119), (V.int .u8 111), (V.int .u8 13), (V.int .u8 10), (V.int .u8 45), (V.int .u8 45), (V.int .u8 98), (V.int .u8 45), (V.int .u8 45), (V.int .u8 13), (V.int .u8 10), (V.int .u8 112), (V.int .u8 111), (V.int .u8 115), (V.int .u8 116)]), (V.agg [(V.int .i64 (getI (headD (V.cells (headD (getT z0.1) V.bot)) V.bot))), (V.int .i64 (getI (headD (tail (V.cells (headD (getT z0.1) V.bot))) V.bot))), (V.int .i64 (getI (headD (tail (tail (V.cells (headD (getT z0.1) V.bot)))) V.bot))), (V.int .i64 (getI (headD (tail (tail (tail (V.cells (headD (getT z0.1) V.bot))))) V.bot))), (V.int .i64 (getI (headD (tail (tail (tail (tail (V.cells (headD (getT z0.1) V.bot)))))) V.bot))), (V.lst 28 false (getL (headD (tail (tail (tail (tail (tail (V.cells (headD (getT z0.1) V.bot))))))) V.bot))), (V.lst 24 false (getL (headD (tail (tail (tail (tail (tail (tail (V.cells (headD (getT z0.1) V.bot)))))))) V.bot))), (V.int .i64 (getI (headD (tail (tail (tail (tail (tail (tail (tail (V.cells (headD (getT z0.1) V.bot))))))))) V.bot))), (V.int .i64 (getI (headD (tail (tail (tail (tail (tail (tail (tail (tail (V.cells (headD (getT z0.1) V.bot)))))))))) V.bot)))]), (V.agg [(V.lst 3 false [(V.int .i64 2), (V.int .i64 1)]), (V.int .i64 0), (V.lst 9 false []), (V.bool false), (V.int .i64 0), (V.int .i64 0)])] []) fun z2 =>
 Option.bind (call 28 [(V.lst 5 false [(V.int .u8 67), (V.int .u8 111), (V.int .u8 110), (V.int .u8 116), (V.int .u8 101), (V.int .u8 110), (V.int .u8 116), (V.int .u8 45), (V.int .u8 84), (V.int .u8 121), (V.int .u8 112), (V.int .u8 101), (V.int .u8 58), (V.int .u8 32), (V.int .u8 109), (V.int .u8 117), (V.int .u8 108), (V.int .u8 116), (V.int .u8 105), (V.int .u8 112), (V.int .u8 97), (V.int .u8 114), (V.int .u8 116), (V.int .u8 47), (V.int .u8 109), (V.int .u8 105), (V.int .u8 120), (V.int .u8 101), (V.int .u8 100), (V.int .u8 59), (V.int .u8 32), (V.int .u8 98), (V.int .u8 111), (V.int .u8 117), (V.int .u8 110), (V.int .u8 100), (V.int .u8 97), (V.int .u8 114), (V.int .u8 121), (V.int .u8 61), (V.int .u8 98), (V.int .u8 13), (V.int .u8 10), (V.int .u8 13), (V.int .u8 10), (V.int .u8 112), (V.int .u8 114), (V.int .u8 101), (V.int .u8 13), (V.int .u8 10), (V.int .u8 45), (V.int .u8 45), (V.int .u8 98), (V.int .u8 13), (V.int .u8 10), (V.int .u8 13), (V.int .u8 10), (V.int .u8 111), (V.int .u8 110), (V.int .u8 101), (V.int .u8 13), (V.int .u8 10), (V.int .u8 45), (V.int .u8 45), (V.int .u8 98), (V.int .u8 13), (V.int .u8 10), (V.int .u8 67), (V.int .u8 111), (V.int .u8 110), (V.int .u8 116), (V.int .u8 101), (V.int .u8 110), (V.int .u8 116), (V.int .u8 45), (V.int .u8 84), (V.int .u8 121), (V.int .u8 112), (V.int .u8 101), (V.int .u8 58), (V.int .u8 32), (V.int .u8 109), (V.int .u8 101), (V.int .u8 115), (V.int .u8 115), (V.int .u8 97), (V.int .u8 103), (V.int .u8 101), (V.int .u8 47), (V.int .u8 114), (V.int .u8 102), (V.int .u8 99), (V.int .u8 56), (V.int .u8 50), (V.int .u8 50), (V.int .u8 13), (V.int .u8 10), (V.int .u8 13), (V.int .u8 10), (V.int .u8 83), (V.int .u8 117), (V.int .u8 98), (V.int .u8 106), (V.int .u8 101), (V.int .u8 99), (V.int .u8 116), (V.int .u8 58), (V.int .u8 32), (V.int .u8 115), (V.int .u8 13), (V.int .u8 10), (V.int .u8 13), (V.int .u8 10), (V.int .u8 116), (V.int .u8 119), (V.int .u8 111), (V.int .u8 13), (V.int .u8 10), (V.int .u8 45), (V.int .u8 45), (V.int .u8 98), (V.int .u8 45), (V.int .u8 45), (V.int .u8 13), (V.int .u8 10), (V.int .u8 112), (V.int .u8 111), (V.int .u8 115), (V.int .u8 116)]), (V.agg [(V.int .i64 (getI (headD (V.cells (headD (getT z0.1) V.bot)) V.bot))), (V.int .i64 (getI (headD (tail (V.cells (headD (getT z0.1) V.bot))) V.bot))), (V.int .i64 (getI (headD (tail (tail (V.cells (headD (getT z0.1) V.bot)))) V.bot))), (V.int .i64 (getI (headD (tail (tail (tail (V.cells (headD (getT z0.1) V.bot))))) V.bot))), (V.int .i64 (getI (headD (tail (tail (tail (tail (V.cells (headD (getT z0.1) V.bot)))))) V.bot))), (V.lst 28 false (getL (headD (tail (tail (tail (tail (tail (V.cells (headD (getT z0.1) V.bot))))))) V.bot))), (V.lst 24 false (getL (headD (tail (tail (tail (tail (tail (tail (V.cells (headD (getT z0.1) V.bot)))))))) V.bot))), (V.int .i64 (getI (headD (tail (tail (tail (tail (tail (tail (tail (V.cells (headD (getT z0.1) V.bot))))))))) V.bot))), (V.int .i64 (getI (headD (tail (tail (tail (tail (tail (tail (tail (tail (V.cells (headD (getT z0.1) V.bot)))))))))) V.bot)))]), (V.agg [(V.lst 3 false [(V.int .i64 2)]), (V.int .i64 2), (V.lst 9 false [(V.str [115, 117, 98, 106, 101, 99, 116])]), (V.bool false), (V.int .i64 0), (V.int .i64 0)])] []) fun z3 =>
 Option.bind (call 28 [(V.lst 5 false [(V.int .u8 67), (V.int .u8 111), (V.int .u8 110), (V.int .u8 116), (V.int .u8 101), (V.int .u8 110), (V.int .u8 116), (V.int .u8 45), (V.int .u8 84), (V.int .u8 121), (V.int .u8 112), (V.int .u8 101), (V.int .u8 58), (V.int .u8 32), (V.int .u8 109), (V.int .u8 117), (V.int .u8 108), (V.int .u8 116), (V.int .u8 105), (V.int .u8 112), (V.int .u8 97), (V.int .u8 114), (V.int .u8 116), (V.int .u8 47), (V.int .u8 109), (V.int .u8 105), (V.int .u8 120), (V.int .u8 101), (V.int .u8 100), (V.int .u8 59), (V.int .u8 32), (V.int .u8 98), (V.int .u8 111), (V.int .u8 117), (V.int .u8 110), (V.int .u8 100), (V.int .u8 97), (V.int .u8 114), (V.int .u8 121), (V.int .u8 61), (V.int .u8 98), (V.int .u8 13), (V.int .u8 10), (V.int .u8 13), (V.int .u8 10), (V.int .u8 112), (V.int .u8 114), (V.int .u8 101), (V.int .u8 13), (V.int .u8 10), (V.int .u8 45), (V.int .u8 45), (V.int .u8 98), (V.int .u8 13), (V.int .u8 10), (V.int .u8 13), (V.int .u8 10), (V.int .u8 111), (V.int .u8 110), (V.int .u8 101), (V.int .u8 13), (V.int .u8 10), (V.int .u8 45), (V.int .u8 45), (V.int .u8 98), (V.int .u8 13), (V.int .u8 10), (V.int .u8 67), (V.int .u8 111), (V.int .u8 110), (V.int .u8 116), (V.int .u8 101), (V.int .u8 110), (V.int .u8 116), (V.int .u8 45), (V.int .u8 84), (V.int .u8 121), (V.int .u8 112), (V.int .u8 101), (V.int .u8 58), (V.int .u8 32), (V.int .u8 109), (V.int .u8 101), (V.int .u8 115), (V.int .u8 115), (V.int .u8 97), (V.int .u8 103), (V.int .u8 101), (V.int .u8 47), (V.int .u8 114), (V.int .u8 102), (V.int .u8 99), (V.int .u8 56), (V.int .u8 50), (V.int .u8 50), (V.int .u8 13), (V.int .u8 10), (V.int .u8 13), (V.int .u8 10), (V.int .u8 83), (V.int .u8 117), (V.int .u8 98), (V.int .u8 106), (V.int .u8 101), (V.int .u8 99), (V.int .u8 116), (V.int .u8 58), (V.int .u8 32), (V.int .u8 115), (V.int .u8 13), (V.int .u8 10), (V.int .u8 13), (V.int .u8 10), (V.int .u8 116), (V.int .u8 119), (V.int .u8 111), (V.int .u8 13), (V.int .u8 10), (V.int .u8 45), (V.int .u8 45), (V.int .u8 98), (V.int .u8 45), (V.int .u8 45), (V.int .u8 13), (V.int .u8 10), (V.int .u8 112), (V.int .u8 111), (V.int .u8 115), (V.int .u8 116)]), (V.agg [(V.int .i64 (getI (headD (V.cells (headD (getT z0.1) V.bot)) V.bot))), (V.int .i64 (getI (headD (tail (V.cells (headD (getT z0.1) V.bot))) V.bot))), (V.int .i64 (getI (headD (tail (tail (V.cells (headD (getT z0.1) V.bot)))) V.bot))), (V.int .i64 (getI (headD (tail (tail (tail (V.cells (headD (getT z0.1) V.bot))))) V.bot))), (V.int .i64 (getI (headD (tail (tail (tail (tail (V.cells (headD (getT z0.1) V.bot)))))) V.bot))), (V.lst 28 false (getL (headD (tail (tail (tail (tail (tail (V.cells (headD (getT z0.1) V.bot))))))) V.bot))), (V.lst 24 false (getL (headD (tail (tail (tail (tail (tail (tail (V.cells (headD (getT z0.1) V.bot)))))))) V.bot))), (V.int .i64 (getI (headD (tail (tail (tail (tail (tail (tail (tail (V.cells (headD (getT z0.1) V.bot))))))))) V.bot))), (V.int .i64 (getI (headD (tail (tail (tail (tail (tail (tail (tail (tail (V.cells (headD (getT z0.1) V.bot)))))))))) V.bot)))]), (V.agg [(V.lst 3 false [(V.int .i64 1)]), (V.int .i64 0), (V.lst 9 false []), (V.bool true), (V.int .i64 1), (V.int .i64 9)])] []) fun z4 =>
 Option.bind (call 36 [(V.agg [(V.int .i64 (getI (headD (V.cells (headD (getT z0.1) V.bot)) V.bot))), (V.int .i64 (getI (headD (tail (V.cells (headD (getT z0.1) V.bot))) V.bot))), (V.int .i64 (getI (headD (tail (tail (V.cells (headD (getT z0.1) V.bot)))) V.bot))), (V.int .i64 (getI (headD (tail (tail (tail (V.cells (headD (getT z0.1) V.bot))))) V.bot))), (V.int .i64 (getI (headD (tail (tail (tail (tail (V.cells (headD (getT z0.1) V.bot)))))) V.bot))), (V.lst 28 false (getL (headD (tail (tail (tail (tail (tail (V.cells (headD (getT z0.1) V.bot))))))) V.bot))), (V.lst 24 false (getL (headD (tail (tail (tail (tail (tail (tail (V.cells (headD (getT z0.1) V.bot)))))))) V.bot))), (V.int .i64 (getI (headD (tail (tail (tail (tail (tail (tail (tail (V.cells (headD (getT z0.1) V.bot))))))))) V.bot))), (V.int .i64 (getI (headD (tail (tail (tail (tail (tail (tail (tail (tail (V.cells (headD (getT z0.1) V.bot)))))))))) V.bot)))]), (V.lst 3 false [(V.int .i64 3)])] []) fun z5 =>
 if ((getI (headD (tail (getT z0.1)) V.bot)) == (0 : Int)) = true then
 if (sEq (bytesOf (getL z1.1)) [111, 110, 101]) = true then
 if (sEq (bytesOf (getL z2.1)) [116, 119, 111]) = true then
 if (sEq (bytesOf (getL z3.1)) [83, 117, 98, 106, 101, 99, 116, 58, 32, 115, 13, 10, 13, 10]) = true then
 if (sEq (bytesOf (getL z4.1)) [110, 101]) = true then
 some ((V.bool (!(getB (headD (tail (getT z5.1)) V.bot)))), [])
 else
 some ((V.bool false), [])
 else
 some ((V.bool false), [])
 else
 some ((V.bool false), [])
 else
 some ((V.bool false), [])
 else
 some ((V.bool false), [])
def A27 : List V := []
theorem E27 : GO 27 Tryd.f27 A27 [] call icall again = T27 call := by kernel_rfl
theorem C27 (k : Nat) : callN cfg (k + 1) 27 A27 [] = T27 (callN cfg k) :=
 (show callN cfg (k + 1) 27 A27 [] = GO 27 Tryd.f27 A27 [] (callN cfg k) (icallN cfg (callN cfg k) 20) (RN 27 Tryd.f27 [] (callN cfg k) (icallN cfg (callN cfg k) 20) k) by kernel_rfl).trans (E27 _ _ _)
theorem M27 {r : V × List Ob} (h : Evt (fun k n => T27 (callN cfg k)) r) : Ret 27 [] [] r := ret_mk (g := fun k n => T27 (callN cfg k)) (fun k => C27 k) h
end Go.Proofs.YtemgbdncidgoiaaDoor
end
section
namespace Go.Proofs.YtemgbdncidgoiaaDoor
open Go.Ev Go
theorem linesOf_to {fr to : Nat} {b : Bs} : ∀ x ∈ linesOf (fr : Nat) (to : Nat) b, fr ≤ x.2.2 ∧ x.2.2 ≤ to := by
  intro x hx
  unfold linesOf at hx
  split at hx
  · rename_i h
    have := linesG_bounds _ _ _ x hx
    simp at this
    omega
  · cases hx
theorem headF_span {fr to : Nat} (b : Bs) (h : fr ≤ to) : fr ≤ (headF b (fr : Nat) (to : Nat)).2.toNat ∧ (headF b (fr : Nat) (to : Nat)).2.toNat ≤ to := by
  have hb : ∀ x ∈ linesOf (fr : Nat) (to : Nat) b, fr ≤ x.2.2 ∧ x.2.2 ≤ to := linesOf_to
  generalize hl : linesOf (fr : Nat) (to : Nat) b = l at hb
  have hd : ∀ k, k < l.length → fr ≤ (l.getD k (0, 0, 0)).2.2 ∧ (l.getD k (0, 0, 0)).2.2 ≤ to := fun k hk => by
    have : l.getD k (0, 0, 0) = l[k] := by simp [List.getD, hk]
    rw [this]; exact hb _ (List.getElem_mem hk)
  unfold headF
  rw [hl]
  by_cases h0 : l = []
  · rw [if_pos h0]; simp; omega
  · have hpos : 0 < l.length := List.length_pos_iff.2 h0
    rw [if_neg h0]
    cases he : emptyF l with
    | some k =>
      have := hd k (emptyF_lt he)
      simp only [Int.toNat_natCast]; exact this
    | none =>
      have := hd (l.length - 1) (by omega)
      simp only [Int.toNat_natCast]; exact this
theorem entF_hb (b : Bs) (d fr to : Nat) (dg : Bool) (n : Nat) : (entF b d fr to dg n).1.hd = (fr, (headF b (fr : Nat) (to : Nat)).2.toNat) ∧ (entF b d fr to dg n).1.bd = ((headF b (fr : Nat) (to : Nat)).2.toNat, to) := by
  cases d with
  | zero => rw [entF]; exact ⟨rfl, rfl⟩
  | succ d =>
    obtain ⟨t, u, ps, h3⟩ : ∃ t u ps, kindF b (headF b (fr : Nat) (to : Nat)).1 dg = (t, u, ps) := ⟨_, _, _, rfl⟩
    obtain ⟨cs, e, h5⟩ : ∃ cs e, cutsF b (headF b (fr : Nat) (to : Nat)).2.toNat to ((getF ps bdB).getD []) = (cs, e) := ⟨_, _, rfl⟩
    rw [entF_s b d fr to dg n rfl rfl h3 rfl h5]
    split
    · split <;> exact ⟨rfl, rfl⟩
    · split <;> exact ⟨rfl, rfl⟩
theorem subF_cat (b : Bs) {x y z : Nat} (h1 : x ≤ y) (h2 : y ≤ z) (h3 : z ≤ b.length) : subF b x y ++ subF b y z = subF b x z := by
  unfold subF
  apply List.ext_getElem?
  intro i
  rw [List.getElem?_append]
  simp only [List.length_drop, List.length_take, List.getElem?_drop, List.getElem?_take]
  by_cases hi : i < min y b.length - x
  · rw [if_pos hi, if_pos (by omega), if_pos (by omega)]
  · rw [if_neg hi]
    by_cases hz : x + i < z
    · rw [if_pos (by omega), if_pos hz]
      congr 1; omega
    · rw [if_neg (by omega), if_neg hz]
def mkS (path : List Int) (w : Int) : Sp := ⟨path, w, [], false, 0, 0⟩
theorem mkS_ok {path : List Int} {w : Int} (h : path.length ≤ 1000000) : SpOk (mkS path w) := ⟨by simp [mkS], by simp [mkS], h⟩
theorem check_one {n w : Int} (hw : w = 0 ∨ w = 5) (hn : 1 ≤ n ∧ n ≤ 4294967295) : checkF (mkS [n] w) = true := by
  have hi : inB 1 n = true := decide_eq_true hn
  rcases hw with rfl | rfl <;> simp [checkF, mkS, hi]
theorem find_one (p : Pt) (n : Int) : findP p [n] = belowF p n := by
  rw [findP]
  cases belowF p n with
  | none => rfl
  | some q => rfl
theorem gets_one0 (b : Bs) (p : Pt) {n : Int} (hn : 1 ≤ n ∧ n ≤ 4294967295) : getsF b p (mkS [n] 0) = match belowF p n with | none => [] | some q => bytesF b q.bd.1 q.bd.2 := by
  unfold getsF allF
  rw [if_neg (by simp [mkS]), if_pos (check_one (.inl rfl) hn), if_neg (by simp [mkS])]
  show (match findP p [n] with | none => [] | some q => _) = _
  rw [find_one]
  cases belowF p n with
  | none => rfl
  | some q => rfl
theorem gets_one5 (b : Bs) (p : Pt) {n : Int} (hn : 1 ≤ n ∧ n ≤ 4294967295) : getsF b p (mkS [n] 5) = match belowF p n with | none => [] | some q => bytesF b q.hd.1 q.hd.2 := by
  unfold getsF allF
  rw [if_neg (by simp [mkS]), if_pos (check_one (.inr rfl) hn), if_neg (by simp [mkS])]
  show (match findP p [n] with | none => [] | some q => _) = _
  rw [find_one]
  cases belowF p n with
  | none => rfl
  | some q => rfl
theorem aw1 : getsF awB awT ⟨[1], 0, [], false, 0, 0⟩ = [111, 110, 101] := by kernel_rfl
theorem aw2 : getsF awB awT ⟨[2, 1], 0, [], false, 0, 0⟩ = [116, 119, 111] := by kernel_rfl
theorem aw3 : getsF awB awT ⟨[2], 2, [subjN], false, 0, 0⟩ = [83, 117, 98, 106, 101, 99, 116, 58, 32, 115, 13, 10, 13, 10] := by kernel_rfl
theorem aw4 : getsF awB awT ⟨[1], 0, [], true, 1, 9⟩ = [110, 101] := by kernel_rfl
theorem aw5 : findP awT [3] = none := by kernel_rfl
theorem ret27 : Ret 27 [] [] (.bool true, []) := by
  have hl : awB.length ≤ 3000 := by simp [awB]
  have hc : cntF awT ≤ 1000000 := by rw [awCnt]; omega
  have g1 := ret28 awB hl awT hc ⟨[1], 0, [], false, 0, 0⟩ ⟨by simp, by simp, by simp⟩
  have g2 := ret28 awB hl awT hc ⟨[2, 1], 0, [], false, 0, 0⟩ ⟨by simp, by simp, by simp⟩
  have g3 := ret28 awB hl awT hc ⟨[2], 2, [subjN], false, 0, 0⟩ ⟨by simp, by simp [subjN], by simp⟩
  have g4 := ret28 awB hl awT hc ⟨[1], 0, [], true, 1, 9⟩ ⟨by simp, by simp, by simp⟩
  have g5 := ret36 awT hc [3] (by simp)
  rw [aw1] at g1
  rw [aw2] at g2
  rw [aw3] at g3
  rw [aw4] at g4
  rw [aw5, told_none] at g5
  refine M27 ?_
  refine evt_eq (g' := fun k _ => Option.bind (callN cfg k 15 [.lst 5 false (ofBytes awB)] []) fun z0 => _) (fun k n => by rw [T27]; rfl) ?_
  refine evt_bind awParse ?_
  simp only [getT_tup, List.headD_cons, List.tail_cons, getI_int, eta_part]
  refine evt_bind g1 ?_
  refine evt_bind g2 ?_
  refine evt_bind g3 ?_
  refine evt_bind g4 ?_
  refine evt_bind g5 ?_
  simp only [getL_lst, bytesOf_ofBytes, getT_tup, List.headD_cons, List.tail_cons, getB_bool, beq_self_eq_true, if_true, sEq, Bool.not_false]
  exact evt_some _
theorem ofB_by (b : Bs) (x y : Nat) : bytesOf (List.drop x (List.take y (ofBytes b))) = subF b x y := subB b x y
theorem sEq_refl (x : Bs) : sEq x x = true := by simp [sEq]
end Go.Proofs.YtemgbdncidgoiaaDoor
end
section
namespace Go.Proofs.YtemgbdncidgoiaaDoor
open Go.Ev Go
open List (headD tail getD length drop take)
open V (getI getL getT getS getB)
set_option maxRecDepth 100000
variable (call : FuncId → Fun) (icall : ICall (V × List Ob)) (again : List It → St → Option (V × List Ob))
end Go.Proofs.YtemgbdncidgoiaaDoor
end
section
namespace Go.Proofs.YtemgbdncidgoiaaDoor
open Go.Ev Go
end Go.Proofs.YtemgbdncidgoiaaDoor
end
section
namespace Go.Proofs.YtemgbdncidgoiaaDoor
open Go.Ev Go
def IsNl (nl : Bs) : Prop := nl = [10] ∨ nl = [13, 10]
theorem line_cons {nl : Bs} (hnl : IsNl nl) (a : Nat) (L r : Bs) (hL : ∀ c ∈ L, c ≠ 10 ∧ c ≠ 13) : linesF a (L ++ (nl ++ r)) = (a, a + L.length, a + L.length + nl.length) :: linesF (a + L.length + nl.length) r := by
  have hno : ∀ k : Nat, L[k]? ≠ some 10 := fun k hk => (hL _ (List.mem_of_getElem? hk)).1 rfl
  have hno3 : ∀ k : Nat, L[k]? ≠ some 13 := fun k hk => (hL _ (List.mem_of_getElem? hk)).2 rfl
  rcases hnl with rfl | rfl
  · have hk : Lib.indexByte (L ++ ([10] ++ r)) 10 = ((L.length : Nat) : Int) := indexByte_at (by rw [List.getElem?_append_right (by omega)]; simp) (fun j hj => by rw [List.getElem?_append_left hj]; exact hno j)
    have hk0 : ¬ (((L.length : Nat) : Int) < 0) := by omega
    have hc : ¬ (0 < L.length ∧ (L ++ ([10] ++ r))[L.length - 1]? = some 13) := fun ⟨h1, h2⟩ => by
      rw [List.getElem?_append_left (by omega)] at h2; exact hno3 _ h2
    have hd : (L ++ ([10] ++ r)).drop (L.length + 1) = r := by
      rw [List.drop_length_add_append]; rfl
    rw [linesF_cons a _ (by simp), hk, if_neg hk0, Int.toNat_natCast, if_neg hc, hd]
    rfl
  · have hk : Lib.indexByte (L ++ ([13, 10] ++ r)) 10 = ((L.length + 1 : Nat) : Int) := indexByte_at (by rw [List.getElem?_append_right (by omega)]; simp) (fun j hj => by
      by_cases hjl : j < L.length
      · rw [List.getElem?_append_left hjl]; exact hno j
      · have : j = L.length := by omega
        subst this
        rw [List.getElem?_append_right (by omega)]; simp)
    have hk0 : ¬ (((L.length + 1 : Nat) : Int) < 0) := by omega
    have h13 : (L ++ ([13, 10] ++ r))[L.length + 1 - 1]? = some 13 := by
      rw [List.getElem?_append_right (by omega)]; simp
    have hd : (L ++ ([13, 10] ++ r)).drop (L.length + 1 + 1) = r := by
      rw [Nat.add_assoc, List.drop_length_add_append]; rfl
    rw [linesF_cons a _ (by simp), hk, if_neg hk0, Int.toNat_natCast, if_pos ⟨by omega, h13⟩, hd]
    simp only [Nat.add_sub_cancel]
    rfl
theorem subF_mid (p m r : Bs) : subF (p ++ (m ++ r)) p.length (p.length + m.length) = m := by
  have := subF_mv p (m ++ r) 0 m.length
  rw [Nat.zero_add, Nat.add_comm m.length] at this
  rw [this]
  unfold subF
  rw [List.drop_zero, List.take_append_of_le_length (Nat.le_refl _), List.take_length]
theorem lineT_mid (p m r : Bs) (z : Nat) : lineT (p ++ (m ++ r)) (p.length, p.length + m.length, z) = m := by
  unfold lineT
  rw [if_pos ⟨by simp only; omega, by simp only [List.length_append]; omega⟩]
  exact subF_mid p m r
end Go.Proofs.YtemgbdncidgoiaaDoor
end
section
namespace Go.Proofs.YtemgbdncidgoiaaDoor
open Go.Ev Go
open List (headD tail getD length drop take)
open V (getI getL getT getS getB)
set_option maxRecDepth 100000
variable (call : FuncId → Fun) (icall : ICall (V × List Ob)) (again : List It → St → Option (V × List Ob))
def T12_0 (call : FuncId → Fun) (ag0 : List V → List V → Int → Option (V × List Ob)) (l0 : List V) (l1 : List V) (i2 : Int) : Option (V × List Ob) :=
 if (decide ((IntKind.wrap .i64 (i2 + (5 : Int))) ≤ ((length l0 : Nat) : Int))) = true then
 chk (decide (0 ≤ (IntKind.wrap .i64 (i2 + (5 : Int))))) (chk (decide ((IntKind.wrap .i64 (i2 + (5 : Int))) ≤ ((length l0 : Nat) : Int))) (chk (decide (0 ≤ i2)) (chk (decide (i2 ≤ (IntKind.wrap .i64 (i2 + (5 : Int))))) (if (sEq (bytesOf (drop (Int.toNat i2) (take (Int.toNat (IntKind.wrap .i64 (i2 + (5 : Int)))) l0))) [122, 122, 122, 122, 122]) = true then
 some ((V.bool true), [])
 else
 (ag0 (l0) (l1) ((IntKind.wrap .i64 (i2 + (1 : Int)))))))))
 else
 chk (appOkS l1 [13, 10, 45, 45, 122, 122, 122, 122, 122, 45, 45] 2) (Option.bind (call 15 [(V.lst 5 false (l1 ++ (ofBytes [13, 10, 45, 45, 122, 122, 122, 122, 122, 45, 45])))] []) fun z0 =>
 Option.bind (if ((getI (headD (tail (getT z0.1)) V.bot)) != (0 : Int)) = false then
 if ((getI (headD (V.cells (headD (getT z0.1) V.bot)) V.bot)) != (1 : Int)) = false then
 if (((length (getL (headD (tail (tail (tail (tail (tail (V.cells (headD (getT z0.1) V.bot))))))) V.bot)) : Nat) : Int) != (1 : Int)) = false then
 chk (decide (0 ≤ (0 : Int))) (chk (decide ((0 : Int) < ((length (getL (headD (tail (tail (tail (tail (tail (V.cells (headD (getT z0.1) V.bot))))))) V.bot)) : Nat) : Int))) (some ((getI (headD (V.cells (getD (getL (headD (tail (tail (tail (tail (tail (V.cells (headD (getT z0.1) V.bot))))))) V.bot)) (Int.toNat (0 : Int)) V.bot)) V.bot)) != (2 : Int))))
 else
 some true
 else
 some true
 else
 some true) fun y1 =>
 if y1 = true then
 some ((V.bool false), [])
 else
 Option.bind (call 28 [(V.lst 5 false (l1 ++ (ofBytes [13, 10, 45, 45, 122, 122, 122, 122, 122, 45, 45]))), (V.agg [(V.int .i64 (getI (headD (V.cells (headD (getT z0.1) V.bot)) V.bot))), (V.int .i64 (getI (headD (tail (V.cells (headD (getT z0.1) V.bot))) V.bot))), (V.int .i64 (getI (headD (tail (tail (V.cells (headD (getT z0.1) V.bot)))) V.bot))), (V.int .i64 (getI (headD (tail (tail (tail (V.cells (headD (getT z0.1) V.bot))))) V.bot))), (V.int .i64 (getI (headD (tail (tail (tail (tail (V.cells (headD (getT z0.1) V.bot)))))) V.bot))), (V.lst 28 false (getL (headD (tail (tail (tail (tail (tail (V.cells (headD (getT z0.1) V.bot))))))) V.bot))), (V.lst 24 false (getL (headD (tail (tail (tail (tail (tail (tail (V.cells (headD (getT z0.1) V.bot)))))))) V.bot))), (V.int .i64 (getI (headD (tail (tail (tail (tail (tail (tail (tail (V.cells (headD (getT z0.1) V.bot))))))))) V.bot))), (V.int .i64 (getI (headD (tail (tail (tail (tail (tail (tail (tail (tail (V.cells (headD (getT z0.1) V.bot)))))))))) V.bot)))]), (V.agg [(V.lst 3 false [(V.int .i64 1)]), (V.int .i64 0), (V.lst 9 false []), (V.bool false), (V.int .i64 0), (V.int .i64 0)])] []) fun z2 =>
 Option.bind (call 28 [(V.lst 5 false (l1 ++ (ofBytes [13, 10, 45, 45, 122, 122, 122, 122, 122, 45, 45]))), (V.agg [(V.int .i64 (getI (headD (V.cells (headD (getT z0.1) V.bot)) V.bot))), (V.int .i64 (getI (headD (tail (V.cells (headD (getT z0.1) V.bot))) V.bot))), (V.int .i64 (getI (headD (tail (tail (V.cells (headD (getT z0.1) V.bot)))) V.bot))), (V.int .i64 (getI (headD (tail (tail (tail (V.cells (headD (getT z0.1) V.bot))))) V.bot))), (V.int .i64 (getI (headD (tail (tail (tail (tail (V.cells (headD (getT z0.1) V.bot)))))) V.bot))), (V.lst 28 false (getL (headD (tail (tail (tail (tail (tail (V.cells (headD (getT z0.1) V.bot))))))) V.bot))), (V.lst 24 false (getL (headD (tail (tail (tail (tail (tail (tail (V.cells (headD (getT z0.1) V.bot)))))))) V.bot))), (V.int .i64 (getI (headD (tail (tail (tail (tail (tail (tail (tail (V.cells (headD (getT z0.1) V.bot))))))))) V.bot))), (V.int .i64 (getI (headD (tail (tail (tail (tail (tail (tail (tail (tail (V.cells (headD (getT z0.1) V.bot)))))))))) V.bot)))]), (V.agg [(V.lst 3 false [(V.int .i64 1)]), (V.int .i64 1), (V.lst 9 false []), (V.bool false), (V.int .i64 0), (V.int .i64 0)])] []) fun z3 =>
 Option.bind (call 28 [(V.lst 5 false (l1 ++ (ofBytes [13, 10, 45, 45, 122, 122, 122, 122, 122, 45, 45]))), (V.agg [(V.int .i64 (getI (headD (V.cells (headD (getT z0.1) V.bot)) V.bot))), (V.int .i64 (getI (headD (tail (V.cells (headD (getT z0.1) V.bot))) V.bot))), (V.int .i64 (getI (headD (tail (tail (V.cells (headD (getT z0.1) V.bot)))) V.bot))), (V.int .i64 (getI (headD (tail (tail (tail (V.cells (headD (getT z0.1) V.bot))))) V.bot))), (V.int .i64 (getI (headD (tail (tail (tail (tail (V.cells (headD (getT z0.1) V.bot)))))) V.bot))), (V.lst 28 false (getL (headD (tail (tail (tail (tail (tail (V.cells (headD (getT z0.1) V.bot))))))) V.bot))), (V.lst 24 false (getL (headD (tail (tail (tail (tail (tail (tail (V.cells (headD (getT z0.1) V.bot)))))))) V.bot))), (V.int .i64 (getI (headD (tail (tail (tail (tail (tail (tail (tail (V.cells (headD (getT z0.1) V.bot))))))))) V.bot))), (V.int .i64 (getI (headD (tail (tail (tail (tail (tail (tail (tail (tail (V.cells (headD (getT z0.1) V.bot)))))))))) V.bot)))]), (V.agg [(V.lst 3 false [(V.int .i64 1)]), (V.int .i64 4), (V.lst 9 false []), (V.bool false), (V.int .i64 0), (V.int .i64 0)])] []) fun z4 =>
 Option.bind (call 28 [(V.lst 5 false (l1 ++ (ofBytes [13, 10, 45, 45, 122, 122, 122, 122, 122, 45, 45]))), (V.agg [(V.int .i64 (getI (headD (V.cells (headD (getT z0.1) V.bot)) V.bot))), (V.int .i64 (getI (headD (tail (V.cells (headD (getT z0.1) V.bot))) V.bot))), (V.int .i64 (getI (headD (tail (tail (V.cells (headD (getT z0.1) V.bot)))) V.bot))), (V.int .i64 (getI (headD (tail (tail (tail (V.cells (headD (getT z0.1) V.bot))))) V.bot))), (V.int .i64 (getI (headD (tail (tail (tail (tail (V.cells (headD (getT z0.1) V.bot)))))) V.bot))), (V.lst 28 false (getL (headD (tail (tail (tail (tail (tail (V.cells (headD (getT z0.1) V.bot))))))) V.bot))), (V.lst 24 false (getL (headD (tail (tail (tail (tail (tail (tail (V.cells (headD (getT z0.1) V.bot)))))))) V.bot))), (V.int .i64 (getI (headD (tail (tail (tail (tail (tail (tail (tail (V.cells (headD (getT z0.1) V.bot))))))))) V.bot))), (V.int .i64 (getI (headD (tail (tail (tail (tail (tail (tail (tail (tail (V.cells (headD (getT z0.1) V.bot)))))))))) V.bot)))]), (V.agg [(V.lst 3 false [(V.int .i64 1)]), (V.int .i64 5), (V.lst 9 false []), (V.bool false), (V.int .i64 0), (V.int .i64 0)])] []) fun z5 =>
 if (sEq (bytesOf (getL z2.1)) (bytesOf l0)) = true then
 chk (catOk (bytesOf (getL z3.1)) (bytesOf (getL z4.1))) (if (sEq ((bytesOf (getL z3.1)) ++ (bytesOf (getL z4.1))) (bytesOf l0)) = true then
 some ((V.bool (sEq (bytesOf (getL z5.1)) [13, 10])), [])
 else
 some ((V.bool false), []))
 else
 some ((V.bool false), []))
def T12 (call : FuncId → Fun) (ag0 : List V → List V → Int → Option (V × List Ob)) (a0 : List V) : Option (V × List Ob) :=
 Option.bind (call 27 [] []) fun z0 =>
 if (!(getB z0.1)) = true then
 some ((V.bool false), [])
 else
 if (decide (((length a0 : Nat) : Int) > (1000 : Int))) = true then
 some ((V.bool true), [])
 else
 chk (appOkS [] [67, 111, 110, 116, 101, 110, 116, 45, 84, 121, 112, 101, 58, 32, 109, 117, 108, 116, 105, 112, 97, 114, 116, 47, 100, 105, 103, 101, 115, 116, 59, 32, 98, 111, 117, 110, 100, 97, 114, 121, 61, 122, 122, 122, 122, 122, 13, 10, 13, 10, 45, 45, 122, 122, 122, 122, 122, 13, 10, 13, 10] 2) (chk (appOk ([] ++ (ofBytes [67, 111, 110, 116, 101, 110, 116, 45, 84, 121, 112, 101, 58, 32, 109, 117, 108, 116, 105, 112, 97, 114, 116, 47, 100, 105, 103, 101, 115, 116, 59, 32, 98, 111, 117, 110, 100, 97, 114, 121, 61, 122, 122, 122, 122, 122, 13, 10, 13, 10, 45, 45, 122, 122, 122, 122, 122, 13, 10, 13, 10])) a0 2) ((ag0 (a0) ((([] ++ (ofBytes [67, 111, 110, 116, 101, 110, 116, 45, 84, 121, 112, 101, 58, 32, 109, 117, 108, 116, 105, 112, 97, 114, 116, 47, 100, 105, 103, 101, 115, 116, 59, 32, 98, 111, 117, 110, 100, 97, 114, 121, 61, 122, 122, 122, 122, 122, 13, 10, 13, 10, 45, 45, 122, 122, 122, 122, 122, 13, 10, 13, 10])) ++ a0)) ((0 : Int)))))
def A12 (a0 : List V) : List V := [V.lst 5 false a0]
def K12_0 (l0 : List V) (l1 : List V) (i2 : Int) : St := ⟨[(V.lst 5 false l0), V.bot, V.bot, V.bot, (V.lst 5 true l1), (V.int IntKind.i64 i2)] ++ List.replicate 99 V.bot, []⟩
theorem S12_0 (l0 : List V) (l1 : List V) (i2 : Int) :
 RM 12 Tryd.f12 [] call icall again (tdOf Tryd.f12 0) (K12_0 l0 l1 i2) = T12_0 call (fun l0 l1 i2 => again (tdOf Tryd.f12 0) (K12_0 l0 l1 i2)) l0 l1 i2 := by kernel_rfl
theorem E12 (a0 : List V) : GO 12 Tryd.f12 (A12 a0) [] call icall again = T12 call (fun l0 l1 i2 => again (tdOf Tryd.f12 0) (K12_0 l0 l1 i2)) a0 := by kernel_rfl
def L12 (call : FuncId → Fun) : Nat → (List V → List V → Int → Option (V × List Ob))
 | 0 => fun _ _ _ => none
 | n + 1 => T12_0 call (L12 call n)
theorem R12 (call : FuncId → Fun) (icall : ICall (V × List Ob)) : ∀ n, (∀ (l0 : List V) (l1 : List V) (i2 : Int), RN 12 Tryd.f12 [] call icall n (tdOf Tryd.f12 0) (K12_0 l0 l1 i2) = (L12 call n) l0 l1 i2)
  | 0 => fun l0 l1 i2 => rfl
  | n + 1 => by
    have ih := R12 call icall n
    exact fun l0 l1 i2 => (S12_0 call icall (RN 12 Tryd.f12 [] call icall n) l0 l1 i2).trans (by rw [show (fun l0 l1 i2 => RN 12 Tryd.f12 [] call icall n (tdOf Tryd.f12 0) (K12_0 l0 l1 i2)) = (L12 call n) from (funext fun l0 => funext fun l1 => funext fun i2 => ih l0 l1 i2)]; rfl)
theorem C12 (k : Nat) (a0 : List V) : callN cfg (k + 1) 12 (A12 a0) [] = T12 (callN cfg k) (L12 (callN cfg k) k) a0 := by
 have ih := R12 (callN cfg k) (icallN cfg (callN cfg k) 20) k
 refine (show callN cfg (k + 1) 12 (A12 a0) [] = GO 12 Tryd.f12 (A12 a0) [] (callN cfg k) (icallN cfg (callN cfg k) 20) (RN 12 Tryd.f12 [] (callN cfg k) (icallN cfg (callN cfg k) 20) k) by kernel_rfl).trans ((E12 _ _ _ a0).trans ?_)
 rw [show (fun l0 l1 i2 => RN 12 Tryd.f12 [] (callN cfg k) (icallN cfg (callN cfg k) 20) k (tdOf Tryd.f12 0) (K12_0 l0 l1 i2)) = (L12 (callN cfg k) k) from (funext fun l0 => funext fun l1 => funext fun i2 => ih l0 l1 i2)]
theorem M12 (a0 : List V) {r : V × List Ob} (h : Evt (fun k n => T12 (callN cfg k) (L12 (callN cfg k) n) a0) r) : Ret 12 [V.lst 5 false a0] [] r := ret_mk (g := fun k n => T12 (callN cfg k) (L12 (callN cfg k) n) a0) (fun k => C12 k a0) h
theorem N12_0 (l0 : List V) (l1 : List V) (i2 : Int) {r : V × List Ob} (h : Evt (fun k n => T12_0 (callN cfg k) (L12 (callN cfg k) n) l0 l1 i2) r) : Evt (fun k n => (L12 (callN cfg k) n) l0 l1 i2) r := evt_step (fun k n => rfl) h
end Go.Proofs.YtemgbdncidgoiaaDoor
end
section
namespace Go.Proofs.YtemgbdncidgoiaaDoor
open Go.Ev Go
def crB : Bs := [13, 10]
def zB : Bs := [122, 122, 122, 122, 122]
def dzB : Bs := [45, 45, 122, 122, 122, 122, 122]
def ezB : Bs := [45, 45, 122, 122, 122, 122, 122, 45, 45]
def NoZ (b : Bs) : Prop := ∀ i, i + 5 ≤ b.length → subF b i (i + 5) ≠ zB
def lastTo (l : List Ln) (fr : Nat) : Nat := l.foldl (fun _ x => x.2.1) fr
theorem cutsG_skip (B bd : Bs) : ∀ (l r : List Ln) (out : List (Nat × Nat)) (fr : Nat), (∀ x ∈ l, (delimF (lineT B x) bd).1 = false) → cutsG B bd (l ++ r) out fr = cutsG B bd r out (lastTo l fr)
  | [], r, out, fr, _ => rfl
  | x :: l, r, out, fr, h => by
    rw [List.cons_append, cutsG, if_pos (h x (by simp)), cutsG_skip B bd l r out _ fun y hy => h y (by simp [hy])]
    rfl
theorem lines_cr : ∀ (n a : Nat) (b : Bs), b.length ≤ n → (∀ fr, lastTo (linesF a (b ++ crB)) fr = a + b.length) ∧ ∀ x ∈ linesF a (b ++ crB), a ≤ x.1 ∧ x.1 ≤ x.2.1 ∧ x.2.1 ≤ a + b.length := by
  intro n
  induction n with
  | zero =>
    intro a b hb
    have : b = [] := List.eq_nil_of_length_eq_zero (by omega)
    subst this
    have e : linesF a ([] ++ crB) = [(a, a, a + 2)] := by kernel_rfl
    rw [e]
    exact ⟨fun fr => rfl, fun x hx => by simp at hx; subst hx; simp⟩
  | succ n ih =>
    intro a b hb
    by_cases h10 : Lib.indexByte b 10 = -1
    · have hno := Lib.indexByte_none h10
      have hk : Lib.indexByte (b ++ crB) 10 = ((b.length + 1 : Nat) : Int) := indexByte_at (by unfold crB; rw [List.getElem?_append_right (by omega)]; simp) (fun j hj => by
        by_cases hjl : j < b.length
        · rw [List.getElem?_append_left hjl]; exact hno j
        · have : j = b.length := by omega
          subst this
          unfold crB
          rw [List.getElem?_append_right (by omega)]; simp)
      have hk0 : ¬ (((b.length + 1 : Nat) : Int) < 0) := by omega
      have h13 : (b ++ crB)[b.length + 1 - 1]? = some 13 := by
        unfold crB
        rw [List.getElem?_append_right (by omega)]; simp
      have hd : (b ++ crB).drop (b.length + 1 + 1) = [] := List.drop_eq_nil_of_le (by simp [crB])
      have e : linesF a (b ++ crB) = [(a, a + b.length, a + (b.length + 1) + 1)] := by
        rw [linesF_cons a _ (by simp [crB]), hk, if_neg hk0, Int.toNat_natCast, if_pos ⟨by omega, h13⟩, hd, linesF_nil]
        simp only [Nat.add_sub_cancel]
      rw [e]
      exact ⟨fun fr => rfl, fun x hx => by simp at hx; subst hx; simp⟩
    · have hge := Lib.indexByte_ge b 10
      obtain ⟨k, hk⟩ : ∃ k : Nat, Lib.indexByte b 10 = k := ⟨(Lib.indexByte b 10).toNat, by omega⟩
      obtain ⟨k1, k2⟩ := Lib.indexByte_some hk
      have hkl : k < b.length := (List.getElem?_eq_some_iff.1 k1).1
      have hk' : Lib.indexByte (b ++ crB) 10 = k := indexByte_at (by rw [List.getElem?_append_left hkl]; exact k1) (fun j hj => by rw [List.getElem?_append_left (by omega)]; exact k2 j hj)
      have hk0 : ¬ ((k : Int) < 0) := by omega
      have hd : (b ++ crB).drop (k + 1) = b.drop (k + 1) ++ crB := List.drop_append_of_le_length (by omega)
      obtain ⟨i1, i2⟩ := ih (a + k + 1) (b.drop (k + 1)) (by rw [List.length_drop]; omega)
      rw [linesF_cons a _ (by simp [crB]), hk', if_neg hk0, Int.toNat_natCast, hd]
      rw [List.length_drop] at i1 i2
      refine ⟨fun fr => ?_, fun x hx => ?_⟩
      · unfold lastTo at i1 ⊢
        rw [List.foldl_cons, i1]; omega
      · rcases List.mem_cons.1 hx with rfl | hx
        · simp only
          split <;> omega
        · have := i2 x hx; omega
theorem delim_noz {t b : Bs} (hb : NoZ b) {s e : Nat} (h1 : s ≤ e) (h2 : e ≤ b.length) (ht : t = subF b s e) : (delimF t zB).1 = false := by
  subst ht
  unfold delimF
  rw [if_pos]
  by_cases hl : (subF b s e).length < 2 + zB.length
  · exact .inl hl
  · right
    intro h
    have hlen : (subF b s e).length = e - s := by unfold subF; rw [List.length_drop, List.length_take]; omega
    have hz : zB.length = 5 := rfl
    refine hb (s + 2) (by omega) ?_
    have h3 := congrArg (List.drop 2) h
    have h4 : ([45, 45] ++ zB).drop 2 = zB := rfl
    rw [h4] at h3
    rw [← h3]
    unfold subF
    rw [hz]
    apply List.ext_getElem?
    intro i
    simp only [List.getElem?_drop, List.getElem?_take]
    by_cases hi : i < 5
    · rw [if_pos (by omega), if_pos (by omega), if_pos (by omega)]
      congr 1; omega
    · rw [if_neg (by omega), if_neg (by omega)]
def digB : Bs := [67, 111, 110, 116, 101, 110, 116, 45, 84, 121, 112, 101, 58, 32, 109, 117, 108, 116, 105, 112, 97, 114, 116, 47, 100, 105, 103, 101, 115, 116, 59, 32, 98, 111, 117, 110, 100, 97, 114, 121, 61, 122, 122, 122, 122, 122, 13, 10, 13, 10]
def allZ (b : Bs) : Bs := digB ++ (dzB ++ (crB ++ ([] ++ (crB ++ (b ++ crB ++ ezB)))))
theorem allZ_length (b : Bs) : (allZ b).length = 72 + b.length := by
  simp only [allZ, List.length_append, List.length_nil, show digB.length = 50 from rfl, show dzB.length = 7 from rfl, show crB.length = 2 from rfl, show ezB.length = 9 from rfl]; omega
theorem digE : emptyF (linesF 0 digB) = some 1 := by kernel_rfl
theorem digH : headF digB ((0 : Nat) : Int) (digB.length : Nat) = ([([67, 111, 110, 116, 101, 110, 116, 45, 84, 121, 112, 101], 0, 13, 48)], 50) := by kernel_rfl
theorem digK : kindF digB [([67, 111, 110, 116, 101, 110, 116, 45, 84, 121, 112, 101], 0, 13, 48)] false = (mpB, dgB, [(bdB, zB)]) := by kernel_rfl
theorem dig_g : (getF [(bdB, zB)] bdB).getD [] = zB := by kernel_rfl
theorem delim_dz : delimF dzB zB = (true, false) := by kernel_rfl
theorem delim_ez : delimF ezB zB = (true, true) := by kernel_rfl
theorem delim_z0 : (delimF [] zB).1 = false := by kernel_rfl
theorem lines_ez (a : Nat) : linesF a ezB = [(a, a + 9, a + 9)] := by kernel_rfl
theorem allZ_cuts {b : Bs} (hb : NoZ b) : cutsF (allZ b) 50 (allZ b).length zB = ([(50, 59)], (61 + b.length, 72 + b.length)) := by
  have hL := allZ_length b
  have hl : linesOf ((50 : Nat) : Int) ((allZ b).length : Nat) (allZ b) = linesF 50 (dzB ++ (crB ++ ([] ++ (crB ++ (b ++ crB ++ ezB))))) := by
    have h1 := linesOf_mv digB (dzB ++ (crB ++ ([] ++ (crB ++ (b ++ crB ++ ezB))))) 0 (dzB ++ (crB ++ ([] ++ (crB ++ (b ++ crB ++ ezB))))).length
    rw [linesOf_all, Nat.zero_add, Nat.add_comm, ← List.length_append] at h1
    have h2 := linesG_mv digB.length (dzB ++ (crB ++ ([] ++ (crB ++ (b ++ crB ++ ezB))))).length 0 (dzB ++ (crB ++ ([] ++ (crB ++ (b ++ crB ++ ezB)))))
    rw [Nat.zero_add] at h2
    exact h1.trans h2.symm
  have hlines : linesF 50 (dzB ++ (crB ++ ([] ++ (crB ++ (b ++ crB ++ ezB))))) = (50, 57, 59) :: (59, 59, 61) :: (linesF 61 (b ++ crB) ++ [(63 + b.length, 72 + b.length, 72 + b.length)]) := by
    rw [line_cons (nl := crB) (.inr rfl) 50 dzB _ (by decide), line_cons (nl := crB) (.inr rfl) _ [] _ (by simp)]
    have h1 := linesF_app (b ++ crB).length (b ++ crB) ezB 61 (Nat.le_refl _) (.inr (by simp [crB]))
    have h2 : (b ++ crB).length = b.length + 2 := by rw [List.length_append]; rfl
    rw [h2, lines_ez] at h1
    simp only [show dzB.length = 7 from rfl, show crB.length = 2 from rfl, List.length_nil]
    rw [h1, show 61 + (b.length + 2) = 63 + b.length by omega, show 63 + b.length + 9 = 72 + b.length by omega]
  have t1 : lineT (allZ b) (50, 57, 59) = dzB := lineT_mid digB dzB _ 59
  have t2 : lineT (allZ b) (59, 59, 61) = [] := by
    have := lineT_mid (digB ++ (dzB ++ crB)) [] (crB ++ (b ++ crB ++ ezB)) 61
    simp only [List.append_assoc] at this
    exact this
  obtain ⟨l1, l2⟩ := lines_cr b.length 61 b (Nat.le_refl _)
  have t3 : ∀ x ∈ linesF 61 (b ++ crB), (delimF (lineT (allZ b) x) zB).1 = false := by
    intro x hx
    obtain ⟨y1, y2, y3⟩ := l2 x hx
    refine delim_noz hb (s := x.1 - 61) (e := x.2.1 - 61) (by omega) (by omega) ?_
    have e1 : allZ b = (digB ++ (dzB ++ (crB ++ crB))) ++ (b ++ (crB ++ ezB)) := by simp only [allZ, List.append_assoc, List.nil_append]
    have h61 : (digB ++ (dzB ++ (crB ++ crB))).length = 61 := rfl
    have hm := lineT_mv (digB ++ (dzB ++ (crB ++ crB))) (b ++ (crB ++ ezB)) (x.1 - 61, x.2.1 - 61, x.2.2 - 61)
    have hc := lineT_cut b (crB ++ ezB) (x.1 - 61, x.2.1 - 61, x.2.2 - 61) (by simp only; omega)
    rw [hc, h61] at hm
    have hx2 : lineT (allZ b) x = lineT (allZ b) (mvN 61 (x.1 - 61, x.2.1 - 61, x.2.2 - 61)) := by
      unfold lineT mvN
      simp only [show x.1 - 61 + 61 = x.1 by omega, show x.2.1 - 61 + 61 = x.2.1 by omega]
    rw [hx2, e1, hm]
    unfold lineT
    rw [if_pos ⟨by simp only; omega, by simp only; omega⟩]
  have t4 : lineT (allZ b) (63 + b.length, 72 + b.length, 72 + b.length) = ezB := by
    have := lineT_mid (digB ++ (dzB ++ (crB ++ (crB ++ (b ++ crB))))) ezB [] (72 + b.length)
    have h63 : (digB ++ (dzB ++ (crB ++ (crB ++ (b ++ crB))))).length = 63 + b.length := by
      simp only [List.length_append, show digB.length = 50 from rfl, show dzB.length = 7 from rfl, show crB.length = 2 from rfl]; omega
    rw [h63, show ezB.length = 9 from rfl, show 63 + b.length + 9 = 72 + b.length by omega] at this
    simp only [List.append_assoc, List.append_nil] at this
    simp only [allZ, List.append_assoc, List.nil_append]
    exact this
  unfold cutsF
  rw [hl, hlines, cutsG, t1, delim_dz]
  simp only [Bool.true_eq_false, if_false, Bool.false_eq_true]
  rw [cutsG, t2, if_pos delim_z0, cutsG_skip _ _ _ _ _ _ t3, l1, cutsG, t4, delim_ez]
  simp only [Bool.true_eq_false, if_false, if_true, List.nil_append, Option.getD_some]
theorem cr_ent (b : Bs) (d n : Nat) (hn : n < 1000) : entF (crB ++ b) (d + 1) 0 (crB ++ b).length true n =
    (Pt.mk 2 (0, 2) (2, (crB ++ b).length) [(entF (crB ++ b) d 2 (crB ++ b).length false (n + 1)).1] [] (0, 0), (entF (crB ++ b) d 2 (crB ++ b).length false (n + 1)).2) := by
  have hE : emptyF (linesF 0 crB) = some 0 := by kernel_rfl
  have hH : headF crB ((0 : Nat) : Int) (crB.length : Nat) = ([], 2) := by kernel_rfl
  have hK : kindF crB [] true = (msgB, rfcB, []) := by kernel_rfl
  have hN : noneF crB [] = true := by kernel_rfl
  rw [entF_hd crB b (k := 0) rfl hE d true n (at_ := 2) (by rw [hH]) (by rw [hH]; rfl) hK rfl rfl]
  rw [if_neg (fun h => absurd h.1 (by decide)), if_pos ⟨rfl, rfl, hN, hn⟩]
theorem mv_hd (n : Nat) (p : Pt) : (mvF n p).hd = mvS n p.hd ∧ (mvF n p).bd = mvS n p.bd := by cases p; rw [mvF]; exact ⟨rfl, rfl⟩
theorem allZ_ent {b : Bs} (hb : NoZ b) : ∃ (I : Pt) (at_ : Nat), 61 ≤ at_ ∧ at_ ≤ 61 + b.length ∧ I.hd = (61, at_) ∧ I.bd = (at_, 61 + b.length) ∧
    (entF (allZ b) 32 0 (allZ b).length false 1).1 = Pt.mk 1 (0, 50) (50, 72 + b.length) [Pt.mk 2 (59, 61) (61, 61 + b.length) [I] [] (0, 0)] [(50, 59)] (61 + b.length, 72 + b.length) := by
  have hL := allZ_length b
  have hc := allZ_cuts hb
  have e1 : allZ b = (digB ++ (dzB ++ crB)) ++ ((crB ++ b) ++ (crB ++ ezB)) := by simp only [allZ, List.append_assoc, List.nil_append]
  have h59 : (digB ++ (dzB ++ crB)).length = 59 := rfl
  have hcl : (crB ++ b).length = b.length + 2 := by rw [List.length_append, Nat.add_comm]; rfl
  obtain ⟨s1, s2⟩ := entF_hb (crB ++ b) 30 2 (crB ++ b).length false 3
  have s3 := headF_span (fr := 2) (to := (crB ++ b).length) (crB ++ b) (by omega)
  have hm := entF_mv (digB ++ (dzB ++ crB)) ((crB ++ b) ++ (crB ++ ezB)) 31 0 (crB ++ b).length true 2
  rw [entF_cut (crB ++ b) (crB ++ ezB) 31 0 (crB ++ b).length true 2 (Nat.zero_le _) (Nat.le_refl _), cr_ent b 30 2 (by omega), ← e1, h59, Nat.zero_add, hcl, show b.length + 2 + 59 = 61 + b.length by omega] at hm
  rw [hcl] at s1 s2 s3
  generalize (headF (crB ++ b) ((2 : Nat) : Int) ((b.length + 2 : Nat) : Int)).2.toNat = at0 at *
  refine ⟨mvF 59 (entF (crB ++ b) 30 2 (b.length + 2) false (2 + 1)).1, at0 + 59, by omega, by omega, ?_, ?_, ?_⟩
  · rw [(mv_hd _ _).1, s1]; rfl
  · rw [(mv_hd _ _).2, s2]; simp only [mvS, Prod.mk.injEq, true_and]; omega
  · have hmp : digB ++ (dzB ++ (crB ++ ([] ++ (crB ++ (b ++ crB ++ ezB))))) = allZ b := rfl
    have he := entF_hd digB (dzB ++ (crB ++ ([] ++ (crB ++ (b ++ crB ++ ezB))))) (k := 1) rfl digE 31 false 1 (at_ := 50) (by rw [digH]) (by rw [digH]; rfl) digK dig_g hc
    rw [hmp] at he
    rw [he, if_pos ⟨rfl, by decide, by decide⟩, if_pos ⟨by simp, by simp⟩]
    simp only [kidsF, nextF, List.length_cons, List.length_nil]
    rw [show ((dgB == dgB) = true) from rfl, Nat.max_eq_left (by omega : 59 ≤ 61 + b.length)]
    show Pt.mk 1 (0, 50) (50, (allZ b).length) [(entF (allZ b) 31 59 (61 + b.length) true 2).1] [(50, 59)] (61 + b.length, 72 + b.length) = _
    rw [hm, hL]
    simp only [mvF, mvL, mvS, List.map_nil, if_neg (show ¬ ((2 : Nat) = 1) by omega)]
    rw [show b.length + 2 + 59 = 61 + b.length by omega]
theorem gets_inner (b : Bs) (p K I : Pt) {w : Int} (hw : w = 1 ∨ w = 4) (h1 : belowF p 1 = some K) (h2 : K.kd = 2) (h3 : K.ks = [I]) : getsF b p (mkS [1] w) = messageF b I (mkS [1] w) := by
  have hc : checkF (mkS [1] w) = true := by rcases hw with rfl | rfl <;> kernel_rfl
  have hk : K.kd = 2 ∧ 0 < K.ks.length := ⟨h2, by rw [h3]; simp⟩
  unfold getsF allF
  rw [if_neg (by simp [mkS]), if_pos hc, if_neg (by simp [mkS])]
  show (match findP p [1] with | none => [] | some q => _) = _
  rw [find_one, h1]
  show (if w = 0 then _ else if w = 5 then _ else if K.kd = 2 ∧ 0 < K.ks.length then messageF b (K.ks.getD 0 zeroP) (mkS [1] w) else []) = _
  rw [if_neg (by omega), if_neg (by omega), if_pos hk, h3]
  rfl
end Go.Proofs.YtemgbdncidgoiaaDoor
end
section
namespace Go.Proofs.YtemgbdncidgoiaaDoor
open Go.Ev Go
def f0B : Bs := [67, 111, 110, 116, 101, 110, 116, 45, 84, 121, 112, 101, 58, 32, 109, 117, 108, 116, 105, 112, 97, 114, 116, 47, 100, 105, 103, 101, 115, 116, 59, 32, 98, 111, 117, 110, 100, 97, 114, 121, 61, 122, 122, 122, 122, 122, 13, 10, 13, 10, 45, 45, 122, 122, 122, 122, 122, 13, 10, 13, 10]
theorem allZ_f0 (b : Bs) : (f0B ++ b) ++ [13, 10, 45, 45, 122, 122, 122, 122, 122, 45, 45] = allZ b := by
  have e : f0B = digB ++ (dzB ++ (crB ++ crB)) := rfl
  have e2 : ([13, 10, 45, 45, 122, 122, 122, 122, 122, 45, 45] : Bs) = crB ++ ezB := rfl
  rw [e, e2]
  simp only [allZ, List.append_assoc, List.nil_append]
theorem fin12 (b : Bs) (hb : b.length ≤ 1000) (hz : NoZ b) (i : Nat) (hi : ¬ (i + 5 ≤ b.length)) (hi2 : i ≤ b.length + 1) :
    Evt (fun k j => L12 (callN cfg k) j (ofBytes b) (ofBytes (f0B ++ b)) (i : Nat)) (.bool true, []) := by
  refine N12_0 (ofBytes b) (ofBytes (f0B ++ b)) (i : Nat) ?_
  have hw : IntKind.wrap .i64 (((i : Nat) : Int) + 5) = ((i + 5 : Nat) : Int) := by rw [wrap64 (by omega) (by omega)]; omega
  have h1 : ¬ (((i + 5 : Nat) : Int) ≤ ((b.length : Nat) : Int)) := by omega
  have hfl : (f0B ++ b).length = 61 + b.length := by rw [List.length_append]; rfl
  have c1 : appOkS (ofBytes (f0B ++ b)) [13, 10, 45, 45, 122, 122, 122, 122, 122, 45, 45] 2 = true := by
    have : ((f0B ++ b).length + 11) * 2 ≤ 70368744177664 := by omega
    simp only [appOkS, ofBytes_length, List.length_cons, List.length_nil]
    exact decide_eq_true this
  have e1 : ofBytes (f0B ++ b) ++ ofBytes [13, 10, 45, 45, 122, 122, 122, 122, 122, 45, 45] = ofBytes (allZ b) := by rw [ofBytes_append, allZ_f0]
  have hL := allZ_length b
  obtain ⟨I, at_, k1, k2, k3, k4, hT⟩ := allZ_ent hz
  have r15 := ret15 (allZ b) (by omega)
  have cT := entF_n (allZ b) 32 0 (allZ b).length false 1 (by omega)
  have cT2 := entF_cnt (allZ b) 32 0 (allZ b).length false 1
  rw [hT] at r15 cT2
  generalize hK : Pt.mk 2 (59, 61) (61, 61 + b.length) [I] [] (0, 0) = K at *
  generalize hTT : Pt.mk 1 (0, 50) (50, 72 + b.length) [K] [(50, 59)] (61 + b.length, 72 + b.length) = T at *
  have t1 : T.kd = 1 := by rw [← hTT]; rfl
  have t2 : T.ks = [K] := by rw [← hTT]; rfl
  have t3 : K.kd = 2 := by rw [← hK]; rfl
  have t4 : K.ks = [I] := by rw [← hK]; rfl
  have t5 : K.hd = (59, 61) := by rw [← hK]; rfl
  have t6 : K.bd = (61, 61 + b.length) := by rw [← hK]; rfl
  have hc : cntF T ≤ 1000000 := by omega
  have hb1 : belowF T 1 = some K := by
    unfold belowF
    rw [if_pos t1, t2, if_neg (by simp)]
    rfl
  have sb : subF (allZ b) 61 (61 + b.length) = b := by
    have := subF_mid (digB ++ (dzB ++ (crB ++ crB))) b (crB ++ ezB)
    simp only [List.append_assoc] at this
    simp only [allZ, List.append_assoc, List.nil_append]
    exact this
  have sm : subF (allZ b) 59 61 = crB := by
    have := subF_mid (digB ++ (dzB ++ crB)) crB (b ++ (crB ++ ezB))
    simp only [List.append_assoc] at this
    simp only [allZ, List.append_assoc, List.nil_append]
    exact this
  have gx := ret28 (allZ b) (by omega) T hc (mkS [1] 0) (mkS_ok (by simp))
  have gh := ret28 (allZ b) (by omega) T hc (mkS [1] 1) (mkS_ok (by simp))
  have gt := ret28 (allZ b) (by omega) T hc (mkS [1] 4) (mkS_ok (by simp))
  have gm := ret28 (allZ b) (by omega) T hc (mkS [1] 5) (mkS_ok (by simp))
  have ex : getsF (allZ b) T (mkS [1] 0) = b := by
    rw [gets_one0 _ _ (by omega), hb1]
    simp only [t6]
    exact (if_pos ⟨by omega, by omega⟩).trans sb
  have eh : getsF (allZ b) T (mkS [1] 1) = subF (allZ b) 61 at_ := by
    rw [gets_inner _ _ K I (.inl rfl) hb1 t3 t4]
    show bytesF (allZ b) I.hd.1 I.hd.2 = _
    rw [k3]
    exact if_pos ⟨by simp only; omega, by simp only; omega⟩
  have et : getsF (allZ b) T (mkS [1] 4) = subF (allZ b) at_ (61 + b.length) := by
    rw [gets_inner _ _ K I (.inr rfl) hb1 t3 t4]
    show bytesF (allZ b) I.bd.1 I.bd.2 = _
    rw [k4]
    exact if_pos ⟨by simp only; omega, by simp only; omega⟩
  have em : getsF (allZ b) T (mkS [1] 5) = crB := by
    rw [gets_one5 _ _ (by omega), hb1]
    simp only [t5]
    exact (if_pos ⟨by omega, by omega⟩).trans sm
  rw [ex] at gx
  rw [eh] at gh
  rw [et] at gt
  rw [em] at gm
  have ec : subF (allZ b) 61 at_ ++ subF (allZ b) at_ (61 + b.length) = b := by rw [subF_cat _ k1 k2 (by omega), sb]
  have hc1 : catOk (subF (allZ b) 61 at_) (subF (allZ b) at_ (61 + b.length)) = true := cat_ok (by have := subF_le (allZ b) 61 at_; have := subF_le (allZ b) at_ (61 + b.length); omega)
  have q0 : ((0 : Int) != (0 : Int)) = false := rfl
  have q1 : (((T.kd : Nat) : Int) != (1 : Int)) = false := by rw [t1]; rfl
  have q2 : (((K.kd : Nat) : Int) != (2 : Int)) = false := by rw [t3]; rfl
  simp only [T12_0, hw, ofBytes_length, h1, decide_false, Bool.false_eq_true, if_false, chk_b c1, e1]
  refine evt_bind r15 ?_
  simp only [getT_tup, List.headD_cons, List.tail_cons, getI_int, eta_part]
  refine evt_opt (v := false) ?_ ?_
  · have g0 : (0 : Int) < ((([partV K]).length : Nat) : Int) := by simp
    have g1 : (((([partV K]).length : Nat) : Int) != (1 : Int)) = false := rfl
    simp only [cells_part, List.headD_cons, List.tail_cons, getI_int, getL_lst, q0, q1, t2, List.map_cons, List.map_nil, g1, if_true, chk_p (Int.le_refl 0), chk_p g0, Int.toNat_zero, List.getD_cons_zero, q2]
  · simp only [Bool.false_eq_true, if_false]
    refine evt_bind gx ?_
    refine evt_bind gh ?_
    refine evt_bind gt ?_
    refine evt_bind gm ?_
    simp only [getL_lst, bytesOf_ofBytes, sEq_refl, if_true, chk_b hc1, ec]
    exact evt_some _
theorem loop12 (b : Bs) (hb : b.length ≤ 1000) : ∀ (m i : Nat), m + i = b.length + 1 → (∀ j, j < i → j + 5 ≤ b.length → subF b j (j + 5) ≠ zB) →
    Evt (fun k j => L12 (callN cfg k) j (ofBytes b) (ofBytes (f0B ++ b)) (i : Nat)) (.bool true, [])
  | 0, i, h, hz => fin12 b hb (fun j hj => hz j (by omega) hj) i (by omega) (by omega)
  | m + 1, i, h, hz => by
    by_cases hi : i + 5 ≤ b.length
    · refine N12_0 (ofBytes b) (ofBytes (f0B ++ b)) (i : Nat) ?_
      have hw : IntKind.wrap .i64 (((i : Nat) : Int) + 5) = ((i + 5 : Nat) : Int) := by rw [wrap64 (by omega) (by omega)]; omega
      have hw1 : IntKind.wrap .i64 (((i : Nat) : Int) + 1) = ((i + 1 : Nat) : Int) := by rw [wrap64 (by omega) (by omega)]; omega
      have h1 : (((i + 5 : Nat) : Int) ≤ ((b.length : Nat) : Int)) := by omega
      have h2 : (0 : Int) ≤ ((i + 5 : Nat) : Int) := by omega
      have h3 : (0 : Int) ≤ (i : Nat) := by omega
      have h4 : ((i : Nat) : Int) ≤ ((i + 5 : Nat) : Int) := by omega
      simp only [T12_0, hw, hw1, ofBytes_length, h1, decide_true, if_true, chk_t, chk_p h2, chk_p h3, chk_p h4, Int.toNat_natCast, ofB_by]
      by_cases he : subF b i (i + 5) = zB
      · have e : sEq (subF b i (i + 5)) [122, 122, 122, 122, 122] = true := by rw [he]; rfl
        simp only [e, if_true]
        exact evt_some _
      · have e : sEq (subF b i (i + 5)) [122, 122, 122, 122, 122] = false := by
          have : (subF b i (i + 5) == zB) = false := by simpa using he
          exact this
        simp only [e, Bool.false_eq_true, if_false]
        refine loop12 b hb m (i + 1) (by omega) fun j hj hj5 => ?_
        by_cases hji : j = i
        · subst hji; exact he
        · exact hz j (by omega) hj5
    · exact fin12 b hb (fun j hj => hz j (by omega) hj) i hi (by omega)
theorem ret12 (b : Bs) : Ret 12 [.lst 5 false (ofBytes b)] [] (.bool true, []) := by
  refine M12 (ofBytes b) ?_
  simp only [T12]
  refine evt_bind ret27 ?_
  simp only [getB_bool, Bool.not_true, Bool.false_eq_true, if_false, ofBytes_length]
  by_cases hb : b.length ≤ 1000
  · have h1 : ¬ (((b.length : Nat) : Int) > 1000) := by omega
    have c1 : appOkS [] f0B 2 = true := by kernel_rfl
    have c2 : appOk ([] ++ ofBytes f0B) (ofBytes b) 2 = true := app_ok (by rw [List.nil_append, ofBytes_length, ofBytes_length, show f0B.length = 61 from rfl]; omega)
    have e3 : ([] ++ ofBytes f0B) ++ ofBytes b = ofBytes (f0B ++ b) := ofBytes_append f0B b
    unfold f0B at c1 c2 e3
    simp only [h1, decide_false, Bool.false_eq_true, if_false, chk_b c1, chk_b c2, e3]
    exact loop12 b hb (b.length + 1) 0 (by omega) (fun j hj => by omega)
  · have h1 : (((b.length : Nat) : Int) > 1000) := by omega
    simp only [h1, decide_true, if_true]
    exact evt_some _
end Go.Proofs.YtemgbdncidgoiaaDoor
end
section
namespace Go.Proofs.YtemgbdncidgoiaaDoor
open Go.ChangeShapes Go.WideShapes Go.ChangeAt Go.RowKit Go.Ev
theorem cells5 : Tryd.prog.cellsOf 5 = 1 := by kernel_rfl
theorem size5 : tySize cfg 5 = 1 := by kernel_rfl
theorem fits5 (n : Int) : fitsE cfg 5 (.int .u8 n) = true := by kernel_rfl
theorem flat_u8 (zs : List Int) : flat (zs.map (Value.int .u8)) = zs.map (Value.int .u8) := by
  induction zs with
  | nil => rfl
  | cons z zs ih => simp only [flat, List.map_cons, List.flatMap_cons, Value.cells] at ih ⊢; rw [ih]; rfl
theorem slice_block {P : Program} {w : World} {r : Reach} {base : Nat} {t e : TypeId} {a : Addr} {len cap : Nat} (ht : P.underlying t = some (.slice e)) (h : Value.okWide P w r base t (.slice (some a) len cap)) : a.block < w.heap.size := by
  simp only [Value.okWide, ht, Cell.okWide, Cell.ok] at h
  obtain ⟨_, _, _, _, row, cells, hs, _⟩ := h
  unfold World.shape? at hs
  by_cases hb : a.block < w.heap.size
  · exact hb
  · rw [Array.getElem?_eq_none (by omega)] at hs
    simp at hs
set_option maxRecDepth 100000 in
theorem bytes_in {H : Type} {enc : TypeId × Value → H} {W : World} {base : Nat} {v : Value} {d : DataW H} {p : List MemPlace} (hval : Value.okWide Tryd.prog W .any base 32 v)
    (h : DataW.Trod enc Tryd.prog W 0 (fun _ => true) true 32 v d p) :
    ∃ vs : List UInt8, Rep cfg W (sizes W) [] (.lst 5 false (ofBytes vs)) v ∧
      ∀ W', Kept W W' → ∀ sp : Nat → Bool, (∀ x ∈ p, sp x.block = true) → DataW.Trod enc Tryd.prog W' 0 sp true 32 v d p := by
  obtain ⟨a1, len, cap, rfl⟩ := okWide_slice Tryd.underlying32 hval
  obtain ⟨fuel, hf⟩ := h
  rcases open_ints Tryd.underlying32 Tryd.underlying5 cells5 hf with ⟨hcs, hx⟩ | ⟨a, len', cap', zs, hcs, _, hl, hm, hz, hx, hcell, hwz⟩
  · simp [Value.cells] at hcs
    obtain ⟨rfl, rfl, rfl⟩ := hcs
    simp only [Prod.mk.injEq] at hx
    obtain ⟨rfl, rfl⟩ := hx
    refine ⟨[], ?_, fun W' _ sp _ => shut_slice_nil Tryd.underlying32⟩
    exact Rep.lst 5 false [] none 0 [] rfl (fun i v x h => by simp at h) (fun v h => by cases h) (fun x h => by cases h) (by rw [size5]; omega) (Nat.le_refl _) ⟨fun _ => rfl, fun p h => by cases h⟩ (fun p h => by cases h)
  · simp [Value.cells] at hcs
    obtain ⟨rfl, rfl, rfl⟩ := hcs
    simp only [Prod.mk.injEq] at hx
    obtain ⟨rfl, rfl⟩ := hx
    have hblk : a.block < W.heap.size := slice_block Tryd.underlying32 hval
    have hsn : some a = none → cap = 0 := fun h => by cases h
    have hsb : ∀ p, some a = some p → p.block < W.heap.size := fun p hp => by cases hp; exact hblk
    simp only [if_true] at hz
    have hrng : ∀ n ∈ zs, 0 ≤ n ∧ n < 256 := fun n hn => by have := bounds_u8 (hwz n hn); omega
    refine ⟨(zs.take len).map fun n => UInt8.ofNat n.toNat, ?_, fun W' hk sp hsp => ?_⟩
    · have hxs : ofBytes ((zs.take len).map fun n => UInt8.ofNat n.toNat) = (zs.take len).map (V.int .u8) := by
        unfold ofBytes
        rw [List.map_map]
        refine List.map_congr_left fun n hn => ?_
        have := hrng n (List.mem_of_mem_take hn)
        simp only [Function.comp, UInt8.toNat_ofNat']
        congr 1
        omega
      have hlen : (ofBytes ((zs.take len).map fun n => UInt8.ofNat n.toNat)).length = len := by rw [hxs]; simp; omega
      have := Rep.lst (c := cfg) (w := W) (G := sizes W) (μ := []) 5 false (ofBytes ((zs.take len).map fun n => UInt8.ofNat n.toNat)) (some a) cap ((zs.take len).map (Value.int .u8)) (by rw [hlen]; simp; omega) (fun i v x hv hx => by
          rw [hxs] at hv
          obtain ⟨n, h1, rfl⟩ := get_map hv
          obtain ⟨n', h2, rfl⟩ := get_map hx
          rw [h1] at h2; cases h2
          exact .int _ _) (fun v hv => by
          rw [hxs] at hv
          obtain ⟨n, _, rfl⟩ := List.mem_map.1 hv
          exact fits5 n) (fun x hx => by
          obtain ⟨n, _, rfl⟩ := List.mem_map.1 hx
          rw [size5]; rfl) (by rw [size5]; omega) (by rw [hlen]; exact hl) ⟨hsn, hsb⟩ (fun p hp hne => by
          cases hp
          have hl0 : 0 < len := by
            rcases Nat.eq_zero_or_pos len with h0 | h0
            · exact absurd (List.eq_nil_of_length_eq_zero (hlen.trans h0)) hne
            · exact h0
          obtain ⟨ab, ao, spot⟩ := a
          have hspot : spot = none := by simpa [Addr.add] using World.cell?_spot (hcell 0 (by omega))
          subst hspot
          refine ⟨rfl, ?_⟩
          rw [flat_u8]
          refine srow_sizes fun j x hj => ?_
          have hjl := (List.getElem?_eq_some_iff.1 hj).1
          rw [List.length_map, List.length_take] at hjl
          have hjl : j < len ∧ j < zs.length := by omega
          have hc := hcell j (by omega)
          rw [Addr.add_lit] at hc
          rw [hc]
          rw [List.getElem?_map, List.getElem?_take, if_pos hjl.1, List.getElem?_eq_getElem hjl.2] at hj
          simp at hj
          rw [← hj]; simp [List.getD, hjl.2])
      rw [hlen] at this
      exact this
    · have hzl : zs.length = (if sp a.block then cap else len) := by
        rcases Nat.eq_zero_or_pos zs.length with h0 | h0
        · split <;> omega
        · have : sp a.block = true := hsp (.cell a.block (a.off + 0)) (by simp only [MemPlace.row, List.mem_map, List.mem_range]; exact ⟨0, h0, rfl⟩)
          rw [if_pos this]; exact hz
      exact ⟨2, shut_ints 0 Tryd.underlying32 Tryd.underlying5 cells5 (Nat.zero_le _) hl hm hzl (fun i hi => hk.cell _ _ (hcell i hi)) hwz⟩
end Go.Proofs.YtemgbdncidgoiaaDoor
end
