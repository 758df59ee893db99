/- Lemmas for the claim, merged: the plain reading of the program's functions, its soundness, and what they compute. -/
import Derived.Test.YtemgbdncidgoiaaDoorPkE
import Derived.KernelRfl
import Derived.ChangeSlices
import Derived.SliceStrings
set_option linter.all false
set_option linter.unusedVariables false
set_option linter.unusedSimpArgs false
section
namespace Go.Proofs.YtemgbdncidgoiaaDoor
open Go.Ev Go
def Pt.kd : Pt → Nat | .mk k _ _ _ _ _ => k
def Pt.hd : Pt → Nat × Nat | .mk _ h _ _ _ _ => h
def Pt.bd : Pt → Nat × Nat | .mk _ _ b _ _ _ => b
def Pt.ks : Pt → List Pt | .mk _ _ _ l _ _ => l
def Pt.cs : Pt → List (Nat × Nat) | .mk _ _ _ _ c _ => c
def Pt.en : Pt → Nat × Nat | .mk _ _ _ _ _ e => e
def zeroP : Pt := leafP 0 0 0
theorem part_agg (p : Pt) : V.agg [.int .i64 (p.kd : Nat), .int .i64 (p.hd.1 : Nat), .int .i64 (p.hd.2 : Nat), .int .i64 (p.bd.1 : Nat), .int .i64 (p.bd.2 : Nat), .lst 28 false (p.ks.map partV), .lst 24 false (p.cs.map cutV), .int .i64 (p.en.1 : Nat), .int .i64 (p.en.2 : Nat)] = partV p := by
  cases p; rw [partV, partVL_eq]; rfl
theorem cells_part (p : Pt) : V.cells (partV p) = [.int .i64 (p.kd : Nat), .int .i64 (p.hd.1 : Nat), .int .i64 (p.hd.2 : Nat), .int .i64 (p.bd.1 : Nat), .int .i64 (p.bd.2 : Nat), .lst 28 false (p.ks.map partV), .lst 24 false (p.cs.map cutV), .int .i64 (p.en.1 : Nat), .int .i64 (p.en.2 : Nat)] := by
  rw [← part_agg]; rfl
theorem getD_ks {l : List Pt} {i : Nat} (h : i < l.length) : (l.map partV).getD i .bot = partV (l.getD i zeroP) := by simp [List.getD, h]
theorem cnt_mem : ∀ {l : List Pt} {q : Pt}, q ∈ l → cntF q ≤ cntL l
  | p :: r, q, h => by
    rw [cntL]
    rcases List.mem_cons.1 h with rfl | h
    · omega
    · have := cnt_mem h; omega
theorem cnt_ks (p : Pt) : cntF p = 1 + cntL p.ks := by cases p; rw [cntF]; rfl
theorem getD_mem {l : List Pt} {i : Nat} (h : i < l.length) : l.getD i zeroP ∈ l := by
  have : l.getD i zeroP = l[i] := by simp [List.getD, h]
  rw [this]; exact List.getElem_mem h
def belowF (p : Pt) (n : Int) : Option Pt := if p.kd = 1 then (if n < 1 ∨ (p.ks.length : Int) < n then none else some (p.ks.getD (n.toNat - 1) zeroP)) else if n = 1 then some p else none
def toldP (o : Option Pt) : V := .tup [partV (o.getD zeroP), .bool o.isSome]
theorem told_none : toldP none = .tup [.agg [.int .i64 0, .int .i64 0, .int .i64 0, .int .i64 0, .int .i64 0, .lst 28 false [], .lst 24 false [], .int .i64 0, .int .i64 0], .bool false] := by
  unfold toldP zeroP
  rw [show (none : Option Pt).getD (leafP 0 0 0) = leafP 0 0 0 from rfl, leaf_V]; rfl
theorem told_some (p : Pt) : toldP (some p) = .tup [partV p, .bool true] := rfl
theorem ret50 (p : Pt) (hc : cntF p ≤ 1000000) (n : Int) : Ret 50 [partV p, .int .i64 n] [] (toldP (belowF p n), []) := by
  have hkl := cntL_len p.ks
  have hk := cnt_ks p
  rw [← part_agg p]
  refine M50 (p.kd : Nat) (p.hd.1 : Nat) (p.hd.2 : Nat) (p.bd.1 : Nat) (p.bd.2 : Nat) (p.ks.map partV) (p.cs.map cutV) (p.en.1 : Nat) (p.en.2 : Nat) n ?_
  simp only [T50, List.length_map]
  unfold belowF
  by_cases hk1 : p.kd = 1
  · have g1 : (((p.kd : Nat) : Int) == (1 : Int)) = true := by rw [hk1]; rfl
    rw [if_pos hk1]
    simp only [g1, if_true]
    by_cases hn : n < 1 ∨ (p.ks.length : Int) < n
    · rw [if_pos hn, told_none]
      refine evt_opt (v := true) ?_ ?_
      · by_cases h1 : n < 1
        · simp [h1]
        · have h2 : n > ((p.ks.length : Nat) : Int) := by omega
          simp [h1, h2]
      · simp only [if_true]; exact evt_some _
    · rw [if_neg hn]
      have e1 : ¬ (n < 1) := by omega
      have e2 : ¬ (n > ((p.ks.length : Nat) : Int)) := by omega
      obtain ⟨N, rfl⟩ : ∃ N : Nat, n = ((N + 1 : Nat) : Int) := ⟨n.toNat - 1, by omega⟩
      have hlt : N < p.ks.length := by omega
      have hw : IntKind.wrap .i64 (((N + 1 : Nat) : Int) - 1) = ((N : Nat) : Int) := by rw [wrap64 (by omega) (by omega)]; omega
      have h2 : (0 : Int) ≤ (N : Nat) := by omega
      have h3 : ((N : Nat) : Int) < ((p.ks.length : Nat) : Int) := by omega
      refine evt_opt (v := false) ?_ ?_
      · simp only [e1, e2, decide_false, if_true]
      · simp only [Bool.false_eq_true, if_false, hw, chk_p h2, chk_p h3, Int.toNat_natCast, getD_ks hlt, eta_part, Nat.add_sub_cancel, told_some]
        exact evt_some _
  · have g1 : (((p.kd : Nat) : Int) == (1 : Int)) = false := by
      have : ¬ (((p.kd : Nat) : Int) = 1) := by omega
      simpa using this
    rw [if_neg hk1]
    simp only [g1, Bool.false_eq_true, if_false, part_agg]
    by_cases hn : n = 1
    · have g2 : (n == (1 : Int)) = true := by simp [hn]
      rw [if_pos hn, told_some]
      simp only [g2, if_true]
      exact evt_some _
    · have g2 : (n == (1 : Int)) = false := by simp [hn]
      rw [if_neg hn, told_none]
      simp only [g2, Bool.false_eq_true, if_false]
      exact evt_some _
def stepP (p : Pt) : Option Pt := if p.kd = 2 ∧ 0 < p.ks.length then some (p.ks.getD 0 zeroP) else if p.kd = 1 then some p else none
def findR : Pt → List Int → Option Pt
  | p, [] => some p
  | p, n :: r => match stepP p with
    | none => none
    | some q => match belowF q n with
      | none => none
      | some q' => findR q' r
def findP (p : Pt) : List Int → Option Pt
  | [] => none
  | n :: r => match belowF p n with
    | none => none
    | some q => findR q r
theorem below_cnt {p q : Pt} {n : Int} (h : belowF p n = some q) : cntF q ≤ cntF p := by
  unfold belowF at h
  split at h
  · split at h
    · cases h
    · rename_i hn
      cases h
      have := cnt_mem (getD_mem (l := p.ks) (i := n.toNat - 1) (by omega))
      rw [cnt_ks p]; omega
  · split at h
    · cases h; omega
    · cases h
theorem step_cnt {p q : Pt} (h : stepP p = some q) : cntF q ≤ cntF p := by
  unfold stepP at h
  split at h
  · rename_i hk
    cases h
    have := cnt_mem (getD_mem (l := p.ks) (i := 0) hk.2)
    rw [cnt_ks p]; omega
  · split at h
    · cases h; omega
    · cases h
noncomputable def LA (call : FuncId → Go.Ev.Fun) (j : Nat) (is : Bool) (path : List Int) (i : Int) (p : Pt) : Option (V × List Ob) :=
  L36 call j is (path.map pathV) (path.length : Nat) i (p.kd : Nat) (p.hd.1 : Nat) (p.hd.2 : Nat) (p.bd.1 : Nat) (p.bd.2 : Nat) (p.ks.map partV) (p.cs.map cutV) (p.en.1 : Nat) (p.en.2 : Nat) 0 0 0 0 0 [] [] 0 0
theorem getD_path {l : List Int} {i : Nat} (h : i < l.length) : (l.map pathV).getD i .bot = .int .i64 l[i] := by simp [List.getD, h, pathV]
theorem loop36 (path : List Int) (hpl : path.length ≤ 1000000) : ∀ (m i : Nat) (p : Pt), path.length - i = m → i ≤ path.length → 0 < i → cntF p ≤ 1000000 →
    Evt (fun k j => LA (callN cfg k) j true path (i : Nat) p) (toldP (findR p (path.drop i)), [])
  | 0, i, p, h, hi, h0, hc => by
    refine N36_0 true (path.map pathV) (path.length : Nat) (i : Nat) (p.kd : Nat) (p.hd.1 : Nat) (p.hd.2 : Nat) (p.bd.1 : Nat) (p.bd.2 : Nat) (p.ks.map partV) (p.cs.map cutV) (p.en.1 : Nat) (p.en.2 : Nat) 0 0 0 0 0 [] [] 0 0 ?_
    have h1 : ¬ (((i : Nat) : Int) < ((path.length : Nat) : Int)) := by omega
    rw [List.drop_eq_nil_of_le (by omega), findR, told_some]
    simp only [T36_0, h1, decide_false, Bool.false_eq_true, if_false, Bool.not_true, part_agg]
    exact evt_some _
  | m + 1, i, p, h, hi, h0, hc => by
    have hlt : i < path.length := by omega
    refine N36_0 true (path.map pathV) (path.length : Nat) (i : Nat) (p.kd : Nat) (p.hd.1 : Nat) (p.hd.2 : Nat) (p.bd.1 : Nat) (p.bd.2 : Nat) (p.ks.map partV) (p.cs.map cutV) (p.en.1 : Nat) (p.en.2 : Nat) 0 0 0 0 0 [] [] 0 0 ?_
    have h1 : (((i : Nat) : Int) < ((path.length : Nat) : Int)) := by omega
    have h2 : (0 : Int) ≤ (i : Nat) := by omega
    have h3 : ((i : Nat) : Int) > 0 := by omega
    have hw : IntKind.wrap .i64 (((i : Nat) : Int) + 1) = ((i + 1 : Nat) : Int) := by rw [wrap64 (by omega) (by omega)]; omega
    have hd : path.drop i = path[i] :: path.drop (i + 1) := List.drop_eq_getElem_cons hlt
    rw [hd, findR]
    simp only [T36_0, h1, decide_true, if_true, chk_p h2, List.length_map, chk_t, h3, Int.toNat_natCast, getD_path hlt, getI_int, hw, part_agg]
    by_cases hk : p.kd = 2 ∧ 0 < p.ks.length
    · have g1 : (((p.kd : Nat) : Int) == (2 : Int)) = true := by rw [hk.1]; rfl
      have g2 : ((p.ks.length : Nat) : Int) > 0 := by omega
      have g3 : (0 : Int) < ((p.ks.length : Nat) : Int) := by omega
      have hs : stepP p = some (p.ks.getD 0 zeroP) := by unfold stepP; rw [if_pos hk]
      have hsc := step_cnt hs
      refine evt_opt (v := true) (by simp only [g1, g2, if_true, decide_true]) ?_
      simp only [if_true, chk_p (Int.le_refl 0), chk_p g3, Int.toNat_zero, getD_ks hk.2, eta_part, hs]
      refine evt_bind (ret50 (p.ks.getD 0 zeroP) (by omega) path[i]) ?_
      cases hbl : belowF (p.ks.getD 0 zeroP) path[i] with
      | none =>
        simp only [told_none, getT_tup, List.headD_cons, List.tail_cons, getB_bool, Bool.not_false, if_true]
        exact evt_some _
      | some q =>
        have hqc := below_cnt hbl
        simp only [told_some, getT_tup, List.headD_cons, List.tail_cons, getB_bool, Bool.not_true, Bool.false_eq_true, if_false, cells_part, getI_int, getL_lst]
        exact loop36 path hpl m (i + 1) q (by omega) (by omega) (by omega) (by omega)
    · refine evt_opt (v := false) ?_ ?_
      · by_cases g : p.kd = 2
        · have g1 : (((p.kd : Nat) : Int) == (2 : Int)) = true := by rw [g]; rfl
          have g2 : ¬ (((p.ks.length : Nat) : Int) > 0) := by omega
          simp only [g1, g2, if_true, decide_false]
        · have g1 : (((p.kd : Nat) : Int) == (2 : Int)) = false := by
            have : ¬ (((p.kd : Nat) : Int) = 2) := by omega
            simpa using this
          simp only [g1, Bool.false_eq_true, if_false]
      · simp only [Bool.false_eq_true, if_false]
        by_cases hk1 : p.kd = 1
        · have g1 : (((p.kd : Nat) : Int) != (1 : Int)) = false := by rw [hk1]; rfl
          have hs : stepP p = some p := by unfold stepP; rw [if_neg hk, if_pos hk1]
          simp only [g1, Bool.false_eq_true, if_false, hs]
          refine evt_bind (ret50 p hc path[i]) ?_
          cases hbl : belowF p path[i] with
          | none =>
            simp only [told_none, getT_tup, List.headD_cons, List.tail_cons, getB_bool, Bool.not_false, if_true]
            exact evt_some _
          | some q =>
            have hqc := below_cnt hbl
            simp only [told_some, getT_tup, List.headD_cons, List.tail_cons, getB_bool, Bool.not_true, Bool.false_eq_true, if_false, cells_part, getI_int, getL_lst]
            exact loop36 path hpl m (i + 1) q (by omega) (by omega) (by omega) (by omega)
        · have g1 : (((p.kd : Nat) : Int) != (1 : Int)) = true := by
            have : ¬ (((p.kd : Nat) : Int) = 1) := by omega
            simpa using this
          have hs : stepP p = none := by unfold stepP; rw [if_neg hk, if_neg hk1]
          simp only [g1, if_true, Bool.not_false, hs, told_none]
          exact evt_some _
theorem ret36 (p : Pt) (hc : cntF p ≤ 1000000) (path : List Int) (hpl : path.length ≤ 1000000) : Ret 36 [partV p, .lst 3 false (path.map pathV)] [] (toldP (findP p path), []) := by
  rw [← part_agg p]
  refine M36 (p.kd : Nat) (p.hd.1 : Nat) (p.hd.2 : Nat) (p.bd.1 : Nat) (p.bd.2 : Nat) (p.ks.map partV) (p.cs.map cutV) (p.en.1 : Nat) (p.en.2 : Nat) (path.map pathV) ?_
  simp only [T36, List.length_map]
  refine N36_0 false (path.map pathV) (path.length : Nat) 0 (p.kd : Nat) (p.hd.1 : Nat) (p.hd.2 : Nat) (p.bd.1 : Nat) (p.bd.2 : Nat) (p.ks.map partV) (p.cs.map cutV) (p.en.1 : Nat) (p.en.2 : Nat) 0 0 0 0 0 [] [] 0 0 ?_
  cases path with
  | nil =>
    have h1 : ¬ ((0 : Int) < ((([] : List Int).length : Nat) : Int)) := by simp
    rw [findP, told_none]
    simp only [T36_0, h1, decide_false, Bool.false_eq_true, if_false, Bool.not_false, if_true]
    exact evt_some _
  | cons n r =>
    have h1 : ((0 : Int) < (((n :: r).length : Nat) : Int)) := by simp only [List.length_cons]; omega
    have h3 : ¬ ((0 : Int) > 0) := by omega
    have hw : IntKind.wrap .i64 ((0 : Int) + 1) = ((0 + 1 : Nat) : Int) := by rw [wrap64 (by omega) (by omega)]; rfl
    have hg : ((n :: r).map pathV).getD 0 .bot = .int .i64 n := rfl
    rw [findP]
    simp only [T36_0, h1, decide_true, if_true, chk_p (Int.le_refl 0), List.length_map, chk_t, h3, decide_false, Bool.false_eq_true, if_false, Int.toNat_zero, hg, getI_int, hw, part_agg]
    refine evt_bind (ret50 p hc n) ?_
    cases hbl : belowF p n with
    | none =>
      simp only [told_none, getT_tup, List.headD_cons, List.tail_cons, getB_bool, Bool.not_false, if_true]
      exact evt_some _
    | some q =>
      have hqc := below_cnt hbl
      simp only [told_some, getT_tup, List.headD_cons, List.tail_cons, getB_bool, Bool.not_true, Bool.false_eq_true, if_false, cells_part, getI_int, getL_lst]
      exact loop36 (n :: r) hpl r.length 1 q (by simp) (by simp) (by omega) (by omega)
def messageF (b : Bs) (p : Pt) (s : Sp) : Bs :=
  if s.what = 0 then bytesF b p.hd.1 p.bd.2 else if s.what = 1 then bytesF b p.hd.1 p.hd.2 else if s.what = 4 then bytesF b p.bd.1 p.bd.2 else
  if s.what = 3 then someF b (headF b (p.hd.1 : Nat) (p.hd.2 : Nat)).1 s.names true else if s.what = 2 then someF b (headF b (p.hd.1 : Nat) (p.hd.2 : Nat)).1 s.names false else []
def allF (b : Bs) (p : Pt) (s : Sp) : Bs :=
  if checkF s then (if s.path.length = 0 then messageF b p s else match findP p s.path with
    | none => []
    | some q => if s.what = 0 then bytesF b q.bd.1 q.bd.2 else if s.what = 5 then bytesF b q.hd.1 q.hd.2 else if q.kd = 2 ∧ 0 < q.ks.length then messageF b (q.ks.getD 0 zeroP) s else [])
  else []
def cutB (o : Bs) (fr many : Int) : Bs := if fr < 0 ∨ (o.length : Int) < fr ∨ many < 1 then [] else subF o fr.toNat (fr.toNat + min many.toNat (o.length - fr.toNat))
def getsF (b : Bs) (p : Pt) (s : Sp) : Bs := if s.cut then cutB (allF b p s) s.fr s.many else allF b p s
def SpOk (s : Sp) : Prop := s.names.length ≤ 1000000 ∧ (∀ n ∈ s.names, n.length ≤ 1000000) ∧ s.path.length ≤ 1000000
theorem beq_dec (x y : Int) : (x == y) = decide (x = y) := by by_cases h : x = y <;> simp [h]
theorem ret52 (b : Bs) (hb : b.length ≤ 100000) (p : Pt) (s : Sp) (hs : SpOk s) : Ret 52 [.lst 5 false (ofBytes b), partV p, specV s] [] (.lst 5 false (ofBytes (messageF b p s)), []) := by
  rw [← part_agg p]
  refine M52 (ofBytes b) (p.kd : Nat) (p.hd.1 : Nat) (p.hd.2 : Nat) (p.bd.1 : Nat) (p.bd.2 : Nat) (p.ks.map partV) (p.cs.map cutV) (p.en.1 : Nat) (p.en.2 : Nat) (s.path.map pathV) s.what (s.names.map V.str) s.cut s.fr s.many ?_
  obtain ⟨k1, k2⟩ := headF_ok b (p.hd.1 : Nat) (p.hd.2 : Nat)
  have k3 := headF_in b p.hd.1 p.hd.2
  simp only [T52, beq_dec]
  unfold messageF
  by_cases w0 : s.what = 0
  · simp only [w0, decide_true, if_true]
    refine evt_bind (ret53 b (by omega) _ _) ?_
    simp only [getL_lst]; exact evt_some _
  by_cases w1 : s.what = 1
  · simp only [w0, w1, decide_true, decide_false, Bool.false_eq_true, if_true, if_false]
    refine evt_bind (ret53 b (by omega) _ _) ?_
    simp only [getL_lst]; exact evt_some _
  by_cases w4 : s.what = 4
  · simp only [w0, w1, w4, decide_true, decide_false, Bool.false_eq_true, if_true, if_false]
    refine evt_bind (ret53 b (by omega) _ _) ?_
    simp only [getL_lst]; exact evt_some _
  by_cases w3 : s.what = 3
  · simp only [w0, w1, w4, w3, decide_true, decide_false, Bool.false_eq_true, if_true, if_false]
    refine evt_bind (ret39 b (by omega) (p.hd.1 : Nat) (p.hd.2 : Nat)) ?_
    simp only [getT_tup, List.headD_cons, getL_lst]
    refine evt_bind (ret72 b hb s.names hs.1 hs.2.1 true _ (by omega) (fun f hf => ⟨by have := k1 f hf; omega, by have := k3 f hf; omega⟩)) ?_
    simp only [getL_lst]; exact evt_some _
  by_cases w2 : s.what = 2
  · simp only [w0, w1, w4, w3, w2, decide_true, decide_false, Bool.false_eq_true, if_true, if_false]
    refine evt_bind (ret39 b (by omega) (p.hd.1 : Nat) (p.hd.2 : Nat)) ?_
    simp only [getT_tup, List.headD_cons, getL_lst]
    refine evt_bind (ret72 b hb s.names hs.1 hs.2.1 false _ (by omega) (fun f hf => ⟨by have := k1 f hf; omega, by have := k3 f hf; omega⟩)) ?_
    simp only [getL_lst]; exact evt_some _
  · simp only [w0, w1, w4, w3, w2, decide_false, Bool.false_eq_true, if_false]
    exact evt_some _
theorem spec_agg (s : Sp) : V.agg [.lst 3 false (s.path.map pathV), .int .i64 s.what, .lst 9 false (s.names.map V.str), .bool s.cut, .int .i64 s.fr, .int .i64 s.many] = specV s := rfl
theorem ret37 (b : Bs) (hb : b.length ≤ 100000) (p : Pt) (hc : cntF p ≤ 1000000) (s : Sp) (hs : SpOk s) : Ret 37 [.lst 5 false (ofBytes b), partV p, specV s] [] (.lst 5 false (ofBytes (allF b p s)), []) := by
  rw [← part_agg p]
  refine M37 (ofBytes b) (p.kd : Nat) (p.hd.1 : Nat) (p.hd.2 : Nat) (p.bd.1 : Nat) (p.bd.2 : Nat) (p.ks.map partV) (p.cs.map cutV) (p.en.1 : Nat) (p.en.2 : Nat) (s.path.map pathV) s.what (s.names.map V.str) s.cut s.fr s.many ?_
  simp only [T37, part_agg, spec_agg, List.length_map]
  refine evt_bind (ret51 s hs.1 hs.2.1 hs.2.2) ?_
  unfold allF
  cases hck : checkF s with
  | false =>
    have g : ((1 : Int) != (0 : Int)) = true := rfl
    simp only [Bool.false_eq_true, if_false, getI_int, g, if_true]
    exact evt_some _
  | true =>
    have g : ((0 : Int) != (0 : Int)) = false := rfl
    simp only [if_true, getI_int, g, Bool.false_eq_true, if_false]
    by_cases hp0 : s.path.length = 0
    · have g1 : (((s.path.length : Nat) : Int) == (0 : Int)) = true := by rw [hp0]; rfl
      simp only [g1, if_true, if_pos hp0]
      refine evt_bind (ret52 b hb p s hs) ?_
      simp only [getL_lst]; exact evt_some _
    · have g1 : (((s.path.length : Nat) : Int) == (0 : Int)) = false := by
        have : ¬ (((s.path.length : Nat) : Int) = 0) := by omega
        simpa using this
      simp only [g1, Bool.false_eq_true, if_false, if_neg hp0]
      refine evt_bind (ret36 p hc s.path hs.2.2) ?_
      cases hf : findP p s.path with
      | none =>
        simp only [told_none, getT_tup, List.headD_cons, List.tail_cons, getB_bool, Bool.not_false, if_true]
        exact evt_some _
      | some q =>
        simp only [told_some, getT_tup, List.headD_cons, List.tail_cons, getB_bool, Bool.not_true, Bool.false_eq_true, if_false, cells_part, getI_int, getL_lst, beq_dec, List.length_map]
        by_cases w0 : s.what = 0
        · simp only [w0, decide_true, if_true]
          refine evt_bind (ret53 b (by omega) _ _) ?_
          simp only [getL_lst]; exact evt_some _
        by_cases w5 : s.what = 5
        · simp only [w0, w5, decide_true, decide_false, Bool.false_eq_true, if_true, if_false]
          refine evt_bind (ret53 b (by omega) _ _) ?_
          simp only [getL_lst]; exact evt_some _
        · simp only [w0, w5, decide_false, Bool.false_eq_true, if_false]
          by_cases hk : q.kd = 2 ∧ 0 < q.ks.length
          · have g2 : ((q.ks.length : Nat) : Int) > 0 := by omega
            have g3 : (0 : Int) < ((q.ks.length : Nat) : Int) := by omega
            have g4 : (((q.kd : Nat) : Int) = 2) := by omega
            rw [if_pos hk]
            refine evt_opt (v := true) (by simp only [g4, g2, if_true, decide_true]) ?_
            simp only [if_true, chk_p (Int.le_refl 0), chk_p g3, Int.toNat_zero, getD_ks hk.2, eta_part]
            refine evt_bind (ret52 b hb _ s hs) ?_
            simp only [getL_lst]; exact evt_some _
          · rw [if_neg hk]
            refine evt_opt (v := false) ?_ ?_
            · by_cases g : q.kd = 2
              · have g1 : (((q.kd : Nat) : Int) = 2) := by omega
                have g2 : ¬ (((q.ks.length : Nat) : Int) > 0) := by omega
                simp only [g1, g2, if_true, decide_true, decide_false]
              · have g1 : ¬ (((q.kd : Nat) : Int) = 2) := by omega
                simp only [g1, decide_false, Bool.false_eq_true, if_false]
            · simp only [Bool.false_eq_true, if_false]
              exact evt_some _
theorem ret38 (o : Bs) (ho : o.length ≤ 1000000000) (fr many : Int) : Ret 38 [.lst 5 false (ofBytes o), .int .i64 fr, .int .i64 many] [] (.lst 5 false (ofBytes (cutB o fr many)), []) := by
  refine M38 (ofBytes o) fr many ?_
  simp only [T38, ofBytes_length]
  unfold cutB
  by_cases h : fr < 0 ∨ (o.length : Int) < fr ∨ many < 1
  · rw [if_pos h]
    refine evt_opt (v := true) ?_ ?_
    · by_cases h1 : fr < 0
      · simp [h1]
      · by_cases h2 : fr > ((o.length : Nat) : Int)
        · simp [h1, h2]
        · have h3 : many < 1 := by omega
          simp [h1, h2, h3]
    · simp only [if_true]; exact evt_some _
  · rw [if_neg h]
    have e1 : ¬ (fr < 0) := by omega
    have e2 : ¬ (fr > ((o.length : Nat) : Int)) := by omega
    have e3 : ¬ (many < 1) := by omega
    obtain ⟨F, rfl⟩ : ∃ F : Nat, fr = F := ⟨fr.toNat, by omega⟩
    obtain ⟨M, rfl⟩ : ∃ M : Nat, many = M := ⟨many.toNat, by omega⟩
    have hw1 : IntKind.wrap .i64 (((o.length : Nat) : Int) - ((F : Nat) : Int)) = ((o.length - F : Nat) : Int) := by rw [wrap64 (by omega) (by omega)]; omega
    have hmin : (if ((o.length - F : Nat) : Int) < ((M : Nat) : Int) then ((o.length - F : Nat) : Int) else ((M : Nat) : Int)) = ((min M (o.length - F) : Nat) : Int) := by split <;> omega
    have hw2 : IntKind.wrap .i64 (((F : Nat) : Int) + ((min M (o.length - F) : Nat) : Int)) = ((F + min M (o.length - F) : Nat) : Int) := by rw [wrap64 (by omega) (by omega)]; omega
    have k1 : (0 : Int) ≤ ((F + min M (o.length - F) : Nat) : Int) := by omega
    have k2 : ((F + min M (o.length - F) : Nat) : Int) ≤ ((o.length : Nat) : Int) := by omega
    have k3 : (0 : Int) ≤ ((F : Nat) : Int) := by omega
    have k4 : ((F : Nat) : Int) ≤ ((F + min M (o.length - F) : Nat) : Int) := by omega
    refine evt_opt (v := false) (by simp only [e1, e2, e3, decide_false, if_true]) ?_
    simp only [Bool.false_eq_true, if_false, hw1, hmin, hw2, chk_p k1, chk_p k2, chk_p k3, chk_p k4, Int.toNat_natCast, ofB_sub]
    refine evt_bind (ret54 _ (by have := subF_le o F (F + min M (o.length - F)); omega)) ?_
    simp only [getL_lst]; exact evt_some _
theorem messageF_le (b : Bs) (p : Pt) (s : Sp) : (messageF b p s).length ≤ b.length + (b.length + 2) * b.length + 2 := by
  have hsome : ∀ but, (someF b (headF b (p.hd.1 : Nat) (p.hd.2 : Nat)).1 s.names but).length ≤ (b.length + 2) * b.length + 2 := by
    intro but
    obtain ⟨_, k2⟩ := headF_ok b (p.hd.1 : Nat) (p.hd.2 : Nat)
    have hf : ∀ (l : List Fd) (out : Bs), (l.foldl (stepS b s.names but) out).length ≤ out.length + (b.length + 2) * l.length := by
      intro l
      induction l with
      | nil => intro out; simp
      | cons f r ih =>
        intro out
        have h1 := ih (stepS b s.names but out f)
        have h2 := stepS_len b s.names but out f
        rw [List.foldl_cons, List.length_cons, Nat.mul_add, Nat.mul_one]
        omega
    have h1 := hf (headF b (p.hd.1 : Nat) (p.hd.2 : Nat)).1 []
    have h2 : (b.length + 2) * (headF b (p.hd.1 : Nat) (p.hd.2 : Nat)).1.length ≤ (b.length + 2) * b.length := Nat.mul_le_mul_left _ k2
    unfold someF
    rw [List.length_append]
    simp only [List.length_nil, List.length_cons] at h1 ⊢
    omega
  unfold messageF
  split
  · have := bytesF_le b p.hd.1 p.bd.2; omega
  split
  · have := bytesF_le b p.hd.1 p.hd.2; omega
  split
  · have := bytesF_le b p.bd.1 p.bd.2; omega
  split
  · have := hsome true; omega
  split
  · have := hsome false; omega
  · simp
theorem allF_le (b : Bs) (p : Pt) (s : Sp) : (allF b p s).length ≤ b.length + (b.length + 2) * b.length + 2 := by
  unfold allF
  split
  · split
    · exact messageF_le b p s
    · split
      · simp
      · rename_i q _
        split
        · have := bytesF_le b q.bd.1 q.bd.2; omega
        split
        · have := bytesF_le b q.hd.1 q.hd.2; omega
        split
        · exact messageF_le b _ s
        · simp
  · simp
theorem ret28 (b : Bs) (hb : b.length ≤ 3000) (p : Pt) (hc : cntF p ≤ 1000000) (s : Sp) (hs : SpOk s) : Ret 28 [.lst 5 false (ofBytes b), partV p, specV s] [] (.lst 5 false (ofBytes (getsF b p s)), []) := by
  have hle := allF_le b p s
  have hle2 : (b.length + 2) * b.length ≤ 3002 * 3000 := Nat.mul_le_mul (by omega) hb
  rw [← part_agg p]
  refine M28 (ofBytes b) (p.kd : Nat) (p.hd.1 : Nat) (p.hd.2 : Nat) (p.bd.1 : Nat) (p.bd.2 : Nat) (p.ks.map partV) (p.cs.map cutV) (p.en.1 : Nat) (p.en.2 : Nat) (s.path.map pathV) s.what (s.names.map V.str) s.cut s.fr s.many ?_
  simp only [T28, part_agg, spec_agg]
  refine evt_bind (ret37 b (by omega) p hc s hs) ?_
  simp only [getL_lst]
  unfold getsF
  cases s.cut with
  | true =>
    simp only [if_true]
    refine evt_bind (ret38 (allF b p s) (by omega) s.fr s.many) ?_
    simp only [getL_lst]; exact evt_some _
  | false =>
    simp only [Bool.false_eq_true, if_false]
    exact evt_some _
end Go.Proofs.YtemgbdncidgoiaaDoor
end
section
namespace Go.Proofs.YtemgbdncidgoiaaDoor
open Go.Ev Go
open List (headD tail getD length drop take)
open V (getI getL getT getS getB)
set_option maxRecDepth 100000
variable (call : FuncId → Fun) (icall : ICall (V × List Ob)) (again : List It → St → Option (V × List Ob))
def T27 (call : FuncId → Fun) : Option (V × List Ob) :=
 Option.bind (call 15 [(V.lst 5 false [(V.int .u8 67), (V.int .u8 111), (V.int .u8 110), (V.int .u8 116), (V.int .u8 101), (V.int .u8 110), (V.int .u8 116), (V.int .u8 45), (V.int .u8 84), (V.int .u8 121), (V.int .u8 112), (V.int .u8 101), (V.int .u8 58), (V.int .u8 32), (V.int .u8 109), (V.int .u8 117), (V.int .u8 108), (V.int .u8 116), (V.int .u8 105), (V.int .u8 112), (V.int .u8 97), (V.int .u8 114), (V.int .u8 116), (V.int .u8 47), (V.int .u8 109), (V.int .u8 105), (V.int .u8 120), (V.int .u8 101), (V.int .u8 100), (V.int .u8 59), (V.int .u8 32), (V.int .u8 98), (V.int .u8 111), (V.int .u8 117), (V.int .u8 110), (V.int .u8 100), (V.int .u8 97), (V.int .u8 114), (V.int .u8 121), (V.int .u8 61), (V.int .u8 98), (V.int .u8 13), (V.int .u8 10), (V.int .u8 13), (V.int .u8 10), (V.int .u8 112), (V.int .u8 114), (V.int .u8 101), (V.int .u8 13), (V.int .u8 10), (V.int .u8 45), (V.int .u8 45), (V.int .u8 98), (V.int .u8 13), (V.int .u8 10), (V.int .u8 13), (V.int .u8 10), (V.int .u8 111), (V.int .u8 110), (V.int .u8 101), (V.int .u8 13), (V.int .u8 10), (V.int .u8 45), (V.int .u8 45), (V.int .u8 98), (V.int .u8 13), (V.int .u8 10), (V.int .u8 67), (V.int .u8 111), (V.int .u8 110), (V.int .u8 116), (V.int .u8 101), (V.int .u8 110), (V.int .u8 116), (V.int .u8 45), (V.int .u8 84), (V.int .u8 121), (V.int .u8 112), (V.int .u8 101), (V.int .u8 58), (V.int .u8 32), (V.int .u8 109), (V.int .u8 101), (V.int .u8 115), (V.int .u8 115), (V.int .u8 97), (V.int .u8 103), (V.int .u8 101), (V.int .u8 47), (V.int .u8 114), (V.int .u8 102), (V.int .u8 99), (V.int .u8 56), (V.int .u8 50), (V.int .u8 50), (V.int .u8 13), (V.int .u8 10), (V.int .u8 13), (V.int .u8 10), (V.int .u8 83), (V.int .u8 117), (V.int .u8 98), (V.int .u8 106), (V.int .u8 101), (V.int .u8 99), (V.int .u8 116), (V.int .u8 58), (V.int .u8 32), (V.int .u8 115), (V.int .u8 13), (V.int .u8 10), (V.int .u8 13), (V.int .u8 10), (V.int .u8 116), (V.int .u8 119), (V.int .u8 111), (V.int .u8 13), (V.int .u8 10), (V.int .u8 45), (V.int .u8 45), (V.int .u8 98), (V.int .u8 45), (V.int .u8 45), (V.int .u8 13), (V.int .u8 10), (V.int .u8 112), (V.int .u8 111), (V.int .u8 115), (V.int .u8 116)])] []) fun z0 =>
 Option.bind (call 28 [(V.lst 5 false [(V.int .u8 67), (V.int .u8 111), (V.int .u8 110), (V.int .u8 116), (V.int .u8 101), (V.int .u8 110), (V.int .u8 116), (V.int .u8 45), (V.int .u8 84), (V.int .u8 121), (V.int .u8 112), (V.int .u8 101), (V.int .u8 58), (V.int .u8 32), (V.int .u8 109), (V.int .u8 117), (V.int .u8 108), (V.int .u8 116), (V.int .u8 105), (V.int .u8 112), (V.int .u8 97), (V.int .u8 114), (V.int .u8 116), (V.int .u8 47), (V.int .u8 109), (V.int .u8 105), (V.int .u8 120), (V.int .u8 101), (V.int .u8 100), (V.int .u8 59), (V.int .u8 32), (V.int .u8 98), (V.int .u8 111), (V.int .u8 117), (V.int .u8 110), (V.int .u8 100), (V.int .u8 97), (V.int .u8 114), (V.int .u8 121), (V.int .u8 61), (V.int .u8 98), (V.int .u8 13), (V.int .u8 10), (V.int .u8 13), (V.int .u8 10), (V.int .u8 112), (V.int .u8 114), (V.int .u8 101), (V.int .u8 13), (V.int .u8 10), (V.int .u8 45), (V.int .u8 45), (V.int .u8 98), (V.int .u8 13), (V.int .u8 10), (V.int .u8 13), (V.int .u8 10), (V.int .u8 111), (V.int .u8 110), (V.int .u8 101), (V.int .u8 13), (V.int .u8 10), (V.int .u8 45), (V.int .u8 45), (V.int .u8 98), (V.int .u8 13), (V.int .u8 10), (V.int .u8 67), (V.int .u8 111), (V.int .u8 110), (V.int .u8 116), (V.int .u8 101), (V.int .u8 110), (V.int .u8 116), (V.int .u8 45), (V.int .u8 84), (V.int .u8 121), (V.int .u8 112), (V.int .u8 101), (V.int .u8 58), (V.int .u8 32), (V.int .u8 109), (V.int .u8 101), (V.int .u8 115), (V.int .u8 115), (V.int .u8 97), (V.int .u8 103), (V.int .u8 101), (V.int .u8 47), (V.int .u8 114), (V.int .u8 102), (V.int .u8 99), (V.int .u8 56), (V.int .u8 50), (V.int .u8 50), (V.int .u8 13), (V.int .u8 10), (V.int .u8 13), (V.int .u8 10), (V.int .u8 83), (V.int .u8 117), (V.int .u8 98), (V.int .u8 106), (V.int .u8 101), (V.int .u8 99), (V.int .u8 116), (V.int .u8 58), (V.int .u8 32), (V.int .u8 115), (V.int .u8 13), (V.int .u8 10), (V.int .u8 13), (V.int .u8 10), (V.int .u8 116), (V.int .u8 119), (V.int .u8 111), (V.int .u8 13), (V.int .u8 10), (V.int .u8 45), (V.int .u8 45), (V.int .u8 98), (V.int .u8 45), (V.int .u8 45), (V.int .u8 13), (V.int .u8 10), (V.int .u8 112), (V.int .u8 111), (V.int .u8 115), (V.int .u8 116)]), (V.agg [(V.int .i64 (getI (headD (V.cells (headD (getT z0.1) V.bot)) V.bot))), (V.int .i64 (getI (headD (tail (V.cells (headD (getT z0.1) V.bot))) V.bot))), (V.int .i64 (getI (headD (tail (tail (V.cells (headD (getT z0.1) V.bot)))) V.bot))), (V.int .i64 (getI (headD (tail (tail (tail (V.cells (headD (getT z0.1) V.bot))))) V.bot))), (V.int .i64 (getI (headD (tail (tail (tail (tail (V.cells (headD (getT z0.1) V.bot)))))) V.bot))), (V.lst 28 false (getL (headD (tail (tail (tail (tail (tail (V.cells (headD (getT z0.1) V.bot))))))) V.bot))), (V.lst 24 false (getL (headD (tail (tail (tail (tail (tail (tail (V.cells (headD (getT z0.1) V.bot)))))))) V.bot))), (V.int .i64 (getI (headD (tail (tail (tail (tail (tail (tail (tail (V.cells (headD (getT z0.1) V.bot))))))))) V.bot))), (V.int .i64 (getI (headD (tail (tail (tail (tail (tail (tail (tail (tail (V.cells (headD (getT z0.1) V.bot)))))))))) V.bot)))]), (V.agg [(V.lst 3 false [(V.int .i64 1)]), (V.int .i64 0), (V.lst 9 false []), (V.bool false), (V.int .i64 0), (V.int .i64 0)])] []) fun z1 =>
 Option.bind (call 28 [(V.lst 5 false [(V.int .u8 67), (V.int .u8 111), (V.int .u8 110), (V.int .u8 116), (V.int .u8 101), (V.int .u8 110), (V.int .u8 116), (V.int .u8 45), (V.int .u8 84), (V.int .u8 121), (V.int .u8 112), (V.int .u8 101), (V.int .u8 58), (V.int .u8 32), (V.int .u8 109), (V.int .u8 117), (V.int .u8 108), (V.int .u8 116), (V.int .u8 105), (V.int .u8 112), (V.int .u8 97), (V.int .u8 114), (V.int .u8 116), (V.int .u8 47), (V.int .u8 109), (V.int .u8 105), (V.int .u8 120), (V.int .u8 101), (V.int .u8 100), (V.int .u8 59), (V.int .u8 32), (V.int .u8 98), (V.int .u8 111), (V.int .u8 117), (V.int .u8 110), (V.int .u8 100), (V.int .u8 97), (V.int .u8 114), (V.int .u8 121), (V.int .u8 61), (V.int .u8 98), (V.int .u8 13), (V.int .u8 10), (V.int .u8 13), (V.int .u8 10), (V.int .u8 112), (V.int .u8 114), (V.int .u8 101), (V.int .u8 13), (V.int .u8 10), (V.int .u8 45), (V.int .u8 45), (V.int .u8 98), (V.int .u8 13), (V.int .u8 10), (V.int .u8 13), (V.int .u8 10), (V.int .u8 111), (V.int .u8 110), (V.int .u8 101), (V.int .u8 13), (V.int .u8 10), (V.int .u8 45), (V.int .u8 45), (V.int .u8 98), (V.int .u8 13), (V.int .u8 10), (V.int .u8 67), (V.int .u8 111), (V.int .u8 110), (V.int .u8 116), (V.int .u8 101), (V.int .u8 110), (V.int .u8 116), (V.int .u8 45), (V.int .u8 84), (V.int .u8 121), (V.int .u8 112), (V.int .u8 101), (V.int .u8 58), (V.int .u8 32), (V.int .u8 109), (V.int .u8 101), (V.int .u8 115), (V.int .u8 115), (V.int .u8 97), (V.int .u8 103), (V.int .u8 101), (V.int .u8 47), (V.int .u8 114), (V.int .u8 102), (V.int .u8 99), (V.int .u8 56), (V.int .u8 50), (V.int .u8 50), (V.int .u8 13), (V.int .u8 10), (V.int .u8 13), (V.int .u8 10), (V.int .u8 83), (V.int .u8 117), (V.int .u8 98), (V.int .u8 106), (V.int .u8 101), (V.int .u8 99), (V.int .u8 116), (V.int .u8 58), (V.int .u8 32), (V.int .u8 115), (V.int .u8 13), (V.int .u8 10), (V.int .u8 13), (V.int .u8 10), (V.int .u8 116), (V.int .u8 119), (V.int .u8 111), (V.int .u8 13), (V.int .u8 10), (V.int .u8 45), (V.int .u8 45), (V.int .u8 98), (V.int .u8 45), (V.int .u8 45), (V.int .u8 13), (V.int .u8 10), (V.int .u8 112), (V.int .u8 111), (V.int .u8 115), (V.int .u8 116)]), (V.agg [(V.int .i64 (getI (headD (V.cells (headD (getT z0.1) V.bot)) V.bot))), (V.int .i64 (getI (headD (tail (V.cells (headD (getT z0.1) V.bot))) V.bot))), (V.int .i64 (getI (headD (tail (tail (V.cells (headD (getT z0.1) V.bot)))) V.bot))), (V.int .i64 (getI (headD (tail (tail (tail (V.cells (headD (getT z0.1) V.bot))))) V.bot))), (V.int .i64 (getI (headD (tail (tail (tail (tail (V.cells (headD (getT z0.1) V.bot)))))) V.bot))), (V.lst 28 false (getL (headD (tail (tail (tail (tail (tail (V.cells (headD (getT z0.1) V.bot))))))) V.bot))), (V.lst 24 false (getL (headD (tail (tail (tail (tail (tail (tail (V.cells (headD (getT z0.1) V.bot)))))))) V.bot))), (V.int .i64 (getI (headD (tail (tail (tail (tail (tail (tail (tail (V.cells (headD (getT z0.1) V.bot))))))))) V.bot))), (V.int .i64 (getI (headD (tail (tail (tail (tail (tail (tail (tail (tail (V.cells (headD (getT z0.1) V.bot)))))))))) V.bot)))]), (V.agg [(V.lst 3 false [(V.int .i64 2), (V.int .i64 1)]), (V.int .i64 0), (V.lst 9 false []), (V.bool false), (V.int .i64 0), (V.int .i64 0)])] []) fun z2 =>
 Option.bind (call 28 [(V.lst 5 false [(V.int .u8 67), (V.int .u8 111), (V.int .u8 110), (V.int .u8 116), (V.int .u8 101), (V.int .u8 110), (V.int .u8 116), (V.int .u8 45), (V.int .u8 84), (V.int .u8 121), (V.int .u8 112), (V.int .u8 101), (V.int .u8 58), (V.int .u8 32), (V.int .u8 109), (V.int .u8 117), (V.int .u8 108), (V.int .u8 116), (V.int .u8 105), (V.int .u8 112), (V.int .u8 97), (V.int .u8 114), (V.int .u8 116), (V.int .u8 47), (V.int .u8 109), (V.int .u8 105), (V.int .u8 120), (V.int .u8 101), (V.int .u8 100), (V.int .u8 59), (V.int .u8 32), (V.int .u8 98), (V.int .u8 111), (V.int .u8 117), (V.int .u8 110), (V.int .u8 100), (V.int .u8 97), (V.int .u8 114), (V.int .u8 121), (V.int .u8 61), (V.int .u8 98), (V.int .u8 13), (V.int .u8 10), (V.int .u8 13), (V.int .u8 10), (V.int .u8 112), (V.int .u8 114), (V.int .u8 101), (V.int .u8 13), (V.int .u8 10), (V.int .u8 45), (V.int .u8 45), (V.int .u8 98), (V.int .u8 13), (V.int .u8 10), (V.int .u8 13), (V.int .u8 10), (V.int .u8 111), (V.int .u8 110), (V.int .u8 101), (V.int .u8 13), (V.int .u8 10), (V.int .u8 45), (V.int .u8 45), (V.int .u8 98), (V.int .u8 13), (V.int .u8 10), (V.int .u8 67), (V.int .u8 111), (V.int .u8 110), (V.int .u8 116), (V.int .u8 101), (V.int .u8 110), (V.int .u8 116), (V.int .u8 45), (V.int .u8 84), (V.int .u8 121), (V.int .u8 112), (V.int .u8 101), (V.int .u8 58), (V.int .u8 32), (V.int .u8 109), (V.int .u8 101), (V.int .u8 115), (V.int .u8 115), (V.int .u8 97), (V.int .u8 103), (V.int .u8 101), (V.int .u8 47), (V.int .u8 114), (V.int .u8 102), (V.int .u8 99), (V.int .u8 56), (V.int .u8 50), (V.int .u8 50), (V.int .u8 13), (V.int .u8 10), (V.int .u8 13), (V.int .u8 10), (V.int .u8 83), (V.int .u8 117), (V.int .u8 98), (V.int .u8 106), (V.int .u8 101), (V.int .u8 99), (V.int .u8 116), (V.int .u8 58), (V.int .u8 32), (V.int .u8 115), (V.int .u8 13), (V.int .u8 10), (V.int .u8 13), (V.int .u8 10), (V.int .u8 116), (V.int .u8 119), (V.int .u8 111), (V.int .u8 13), (V.int .u8 10), (V.int .u8 45), (V.int .u8 45), (V.int .u8 98), (V.int .u8 45), (V.int .u8 45), (V.int .u8 13), (V.int .u8 10), (V.int .u8 112), (V.int .u8 111), (V.int .u8 115), (V.int .u8 116)]), (V.agg [(V.int .i64 (getI (headD (V.cells (headD (getT z0.1) V.bot)) V.bot))), (V.int .i64 (getI (headD (tail (V.cells (headD (getT z0.1) V.bot))) V.bot))), (V.int .i64 (getI (headD (tail (tail (V.cells (headD (getT z0.1) V.bot)))) V.bot))), (V.int .i64 (getI (headD (tail (tail (tail (V.cells (headD (getT z0.1) V.bot))))) V.bot))), (V.int .i64 (getI (headD (tail (tail (tail (tail (V.cells (headD (getT z0.1) V.bot)))))) V.bot))), (V.lst 28 false (getL (headD (tail (tail (tail (tail (tail (V.cells (headD (getT z0.1) V.bot))))))) V.bot))), (V.lst 24 false (getL (headD (tail (tail (tail (tail (tail (tail (V.cells (headD (getT z0.1) V.bot)))))))) V.bot))), (V.int .i64 (getI (headD (tail (tail (tail (tail (tail (tail (tail (V.cells (headD (getT z0.1) V.bot))))))))) V.bot))), (V.int .i64 (getI (headD (tail (tail (tail (tail (tail (tail (tail (tail (V.cells (headD (getT z0.1) V.bot)))))))))) V.bot)))]), (V.agg [(V.lst 3 false [(V.int .i64 2)]), (V.int .i64 2), (V.lst 9 false [(V.str [115, 117, 98, 106, 101, 99, 116])]), (V.bool false), (V.int .i64 0), (V.int .i64 0)])] []) fun z3 =>
 Option.bind (call 28 [(V.lst 5 false [(V.int .u8 67), (V.int .u8 111), (V.int .u8 110), (V.int .u8 116), (V.int .u8 101), (V.int .u8 110), (V.int .u8 116), (V.int .u8 45), (V.int .u8 84), (V.int .u8 121), (V.int .u8 112), (V.int .u8 101), (V.int .u8 58), (V.int .u8 32), (V.int .u8 109), (V.int .u8 117), (V.int .u8 108), (V.int .u8 116), (V.int .u8 105), (V.int .u8 112), (V.int .u8 97), (V.int .u8 114), (V.int .u8 116), (V.int .u8 47), (V.int .u8 109), (V.int .u8 105), (V.int .u8 120), (V.int .u8 101), (V.int .u8 100), (V.int .u8 59), (V.int .u8 32), (V.int .u8 98), (V.int .u8 111), (V.int .u8 117), (V.int .u8 110), (V.int .u8 100), (V.int .u8 97), (V.int .u8 114), (V.int .u8 121), (V.int .u8 61), (V.int .u8 98), (V.int .u8 13), (V.int .u8 10), (V.int .u8 13), (V.int .u8 10), (V.int .u8 112), (V.int .u8 114), (V.int .u8 101), (V.int .u8 13), (V.int .u8 10), (V.int .u8 45), (V.int .u8 45), (V.int .u8 98), (V.int .u8 13), (V.int .u8 10), (V.int .u8 13), (V.int .u8 10), (V.int .u8 111), (V.int .u8 110), (V.int .u8 101), (V.int .u8 13), (V.int .u8 10), (V.int .u8 45), (V.int .u8 45), (V.int .u8 98), (V.int .u8 13), (V.int .u8 10), (V.int .u8 67), (V.int .u8 111), (V.int .u8 110), (V.int .u8 116), (V.int .u8 101), (V.int .u8 110), (V.int .u8 116), (V.int .u8 45), (V.int .u8 84), (V.int .u8 121), (V.int .u8 112), (V.int .u8 101), (V.int .u8 58), (V.int .u8 32), (V.int .u8 109), (V.int .u8 101), (V.int .u8 115), (V.int .u8 115), (V.int .u8 97), (V.int .u8 103), (V.int .u8 101), (V.int .u8 47), (V.int .u8 114), (V.int .u8 102), (V.int .u8 99), (V.int .u8 56), (V.int .u8 50), (V.int .u8 50), (V.int .u8 13), (V.int .u8 10), (V.int .u8 13), (V.int .u8 10), (V.int .u8 83), (V.int .u8 117), (V.int .u8 98), (V.int .u8 106), (V.int .u8 101), (V.int .u8 99), (V.int .u8 116), (V.int .u8 58), (V.int .u8 32), (V.int .u8 115), (V.int .u8 13), (V.int .u8 10), (V.int .u8 13), (V.int .u8 10), (V.int .u8 116), (V.int .u8 119), (V.int .u8 111), (V.int .u8 13), (V.int .u8 10), (V.int .u8 45), (V.int .u8 45), (V.int .u8 98), (V.int .u8 45), (V.int .u8 45), (V.int .u8 13), (V.int .u8 10), (V.int .u8 112), (V.int .u8 111), (V.int .u8 115), (V.int .u8 116)]), (V.agg [(V.int .i64 (getI (headD (V.cells (headD (getT z0.1) V.bot)) V.bot))), (V.int .i64 (getI (headD (tail (V.cells (headD (getT z0.1) V.bot))) V.bot))), (V.int .i64 (getI (headD (tail (tail (V.cells (headD (getT z0.1) V.bot)))) V.bot))), (V.int .i64 (getI (headD (tail (tail (tail (V.cells (headD (getT z0.1) V.bot))))) V.bot))), (V.int .i64 (getI (headD (tail (tail (tail (tail (V.cells (headD (getT z0.1) V.bot)))))) V.bot))), (V.lst 28 false (getL (headD (tail (tail (tail (tail (tail (V.cells (headD (getT z0.1) V.bot))))))) V.bot))), (V.lst 24 false (getL (headD (tail (tail (tail (tail (tail (tail (V.cells (headD (getT z0.1) V.bot)))))))) V.bot))), (V.int .i64 (getI (headD (tail (tail (tail (tail (tail (tail (tail (V.cells (headD (getT z0.1) V.bot))))))))) V.bot))), (V.int .i64 (getI (headD (tail (tail (tail (tail (tail (tail (tail (tail (V.cells (headD (getT z0.1) V.bot)))))))))) V.bot)))]), (V.agg [(V.lst 3 false [(V.int .i64 1)]), (V.int .i64 0), (V.lst 9 false []), (V.bool true), (V.int .i64 1), (V.int .i64 9)])] []) fun z4 =>
 Option.bind (call 36 [(V.agg [(V.int .i64 (getI (headD (V.cells (headD (getT z0.1) V.bot)) V.bot))), (V.int .i64 (getI (headD (tail (V.cells (headD (getT z0.1) V.bot))) V.bot))), (V.int .i64 (getI (headD (tail (tail (V.cells (headD (getT z0.1) V.bot)))) V.bot))), (V.int .i64 (getI (headD (tail (tail (tail (V.cells (headD (getT z0.1) V.bot))))) V.bot))), (V.int .i64 (getI (headD (tail (tail (tail (tail (V.cells (headD (getT z0.1) V.bot)))))) V.bot))), (V.lst 28 false (getL (headD (tail (tail (tail (tail (tail (V.cells (headD (getT z0.1) V.bot))))))) V.bot))), (V.lst 24 false (getL (headD (tail (tail (tail (tail (tail (tail (V.cells (headD (getT z0.1) V.bot)))))))) V.bot))), (V.int .i64 (getI (headD (tail (tail (tail (tail (tail (tail (tail (V.cells (headD (getT z0.1) V.bot))))))))) V.bot))), (V.int .i64 (getI (headD (tail (tail (tail (tail (tail (tail (tail (tail (V.cells (headD (getT z0.1) V.bot)))))))))) V.bot)))]), (V.lst 3 false [(V.int .i64 3)])] []) fun z5 =>
 if ((getI (headD (tail (getT z0.1)) V.bot)) == (0 : Int)) = true then
 if (sEq (bytesOf (getL z1.1)) [111, 110, 101]) = true then
 if (sEq (bytesOf (getL z2.1)) [116, 119, 111]) = true then
 if (sEq (bytesOf (getL z3.1)) [83, 117, 98, 106, 101, 99, 116, 58, 32, 115, 13, 10, 13, 10]) = true then
 if (sEq (bytesOf (getL z4.1)) [110, 101]) = true then
 some ((V.bool (!(getB (headD (tail (getT z5.1)) V.bot)))), [])
 else
 some ((V.bool false), [])
 else
 some ((V.bool false), [])
 else
 some ((V.bool false), [])
 else
 some ((V.bool false), [])
 else
 some ((V.bool false), [])
def A27 : List V := []
theorem E27 : GO 27 Tryd.f27 A27 [] call icall again = T27 call := by kernel_rfl
theorem C27 (k : Nat) : callN cfg (k + 1) 27 A27 [] = T27 (callN cfg k) :=
 (show callN cfg (k + 1) 27 A27 [] = GO 27 Tryd.f27 A27 [] (callN cfg k) (icallN cfg (callN cfg k) 20) (RN 27 Tryd.f27 [] (callN cfg k) (icallN cfg (callN cfg k) 20) k) by kernel_rfl).trans (E27 _ _ _)
theorem M27 {r : V × List Ob} (h : Evt (fun k n => T27 (callN cfg k)) r) : Ret 27 [] [] r := ret_mk (g := fun k n => T27 (callN cfg k)) (fun k => C27 k) h
end Go.Proofs.YtemgbdncidgoiaaDoor
end
section
namespace Go.Proofs.YtemgbdncidgoiaaDoor
open Go.Ev Go
theorem aw1 : getsF awB awT ⟨[1], 0, [], false, 0, 0⟩ = [111, 110, 101] := by kernel_rfl
theorem aw2 : getsF awB awT ⟨[2, 1], 0, [], false, 0, 0⟩ = [116, 119, 111] := by kernel_rfl
theorem aw3 : getsF awB awT ⟨[2], 2, [subjN], false, 0, 0⟩ = [83, 117, 98, 106, 101, 99, 116, 58, 32, 115, 13, 10, 13, 10] := by kernel_rfl
theorem aw4 : getsF awB awT ⟨[1], 0, [], true, 1, 9⟩ = [110, 101] := by kernel_rfl
theorem aw5 : findP awT [3] = none := by kernel_rfl
theorem ret27 : Ret 27 [] [] (.bool true, []) := by
  have hl : awB.length ≤ 3000 := by simp [awB]
  have hc : cntF awT ≤ 1000000 := by rw [awCnt]; omega
  have g1 := ret28 awB hl awT hc ⟨[1], 0, [], false, 0, 0⟩ ⟨by simp, by simp, by simp⟩
  have g2 := ret28 awB hl awT hc ⟨[2, 1], 0, [], false, 0, 0⟩ ⟨by simp, by simp, by simp⟩
  have g3 := ret28 awB hl awT hc ⟨[2], 2, [subjN], false, 0, 0⟩ ⟨by simp, by simp [subjN], by simp⟩
  have g4 := ret28 awB hl awT hc ⟨[1], 0, [], true, 1, 9⟩ ⟨by simp, by simp, by simp⟩
  have g5 := ret36 awT hc [3] (by simp)
  rw [aw1] at g1
  rw [aw2] at g2
  rw [aw3] at g3
  rw [aw4] at g4
  rw [aw5, told_none] at g5
  refine M27 ?_
  refine evt_eq (g' := fun k _ => Option.bind (callN cfg k 15 [.lst 5 false (ofBytes awB)] []) fun z0 => _) (fun k n => by rw [T27]; rfl) ?_
  refine evt_bind awParse ?_
  simp only [getT_tup, List.headD_cons, List.tail_cons, getI_int, eta_part]
  refine evt_bind g1 ?_
  refine evt_bind g2 ?_
  refine evt_bind g3 ?_
  refine evt_bind g4 ?_
  refine evt_bind g5 ?_
  simp only [getL_lst, bytesOf_ofBytes, getT_tup, List.headD_cons, List.tail_cons, getB_bool, beq_self_eq_true, if_true, sEq, Bool.not_false]
  exact evt_some _
theorem sEq_refl (x : Bs) : sEq x x = true := by simp [sEq]
end Go.Proofs.YtemgbdncidgoiaaDoor
end
section
namespace Go.Proofs.YtemgbdncidgoiaaDoor
open Go.Ev Go
open List (headD tail getD length drop take)
open V (getI getL getT getS getB)
set_option maxRecDepth 100000
variable (call : FuncId → Fun) (icall : ICall (V × List Ob)) (again : List It → St → Option (V × List Ob))
def T11_0 (call : FuncId → Fun) (ag0 : List V → List V → Int → Option (V × List Ob)) (ag1 : List V → List V → Int → Int → Option (V × List Ob)) (l0 : List V) (l1 : List V) (i2 : Int) : Option (V × List Ob) :=
 if (decide (i2 < ((length l1 : Nat) : Int))) = true then
 chk (decide (0 ≤ i2)) (chk (decide (i2 < ((length l1 : Nat) : Int))) (if (decide (((length (getS (getD l1 (Int.toNat i2) V.bot)) : Nat) : Int) > (30 : Int))) = true then
 some ((V.bool true), [])
 else
 (ag1 (l0) (l1) (i2) ((0 : Int)))))
 else
 Option.bind (call 15 [(V.lst 5 false l0)] []) fun z0 =>
 Option.bind (call 28 [(V.lst 5 false l0), (V.agg [(V.int .i64 (getI (headD (V.cells (headD (getT z0.1) V.bot)) V.bot))), (V.int .i64 (getI (headD (tail (V.cells (headD (getT z0.1) V.bot))) V.bot))), (V.int .i64 (getI (headD (tail (tail (V.cells (headD (getT z0.1) V.bot)))) V.bot))), (V.int .i64 (getI (headD (tail (tail (tail (V.cells (headD (getT z0.1) V.bot))))) V.bot))), (V.int .i64 (getI (headD (tail (tail (tail (tail (V.cells (headD (getT z0.1) V.bot)))))) V.bot))), (V.lst 28 false (getL (headD (tail (tail (tail (tail (tail (V.cells (headD (getT z0.1) V.bot))))))) V.bot))), (V.lst 24 false (getL (headD (tail (tail (tail (tail (tail (tail (V.cells (headD (getT z0.1) V.bot)))))))) V.bot))), (V.int .i64 (getI (headD (tail (tail (tail (tail (tail (tail (tail (V.cells (headD (getT z0.1) V.bot))))))))) V.bot))), (V.int .i64 (getI (headD (tail (tail (tail (tail (tail (tail (tail (tail (V.cells (headD (getT z0.1) V.bot)))))))))) V.bot)))]), (V.agg [(V.lst 3 false []), (V.int .i64 2), (V.lst 9 false l1), (V.bool false), (V.int .i64 0), (V.int .i64 0)])] []) fun z1 =>
 Option.bind (call 28 [(V.lst 5 false l0), (V.agg [(V.int .i64 (getI (headD (V.cells (headD (getT z0.1) V.bot)) V.bot))), (V.int .i64 (getI (headD (tail (V.cells (headD (getT z0.1) V.bot))) V.bot))), (V.int .i64 (getI (headD (tail (tail (V.cells (headD (getT z0.1) V.bot)))) V.bot))), (V.int .i64 (getI (headD (tail (tail (tail (V.cells (headD (getT z0.1) V.bot))))) V.bot))), (V.int .i64 (getI (headD (tail (tail (tail (tail (V.cells (headD (getT z0.1) V.bot)))))) V.bot))), (V.lst 28 false (getL (headD (tail (tail (tail (tail (tail (V.cells (headD (getT z0.1) V.bot))))))) V.bot))), (V.lst 24 false (getL (headD (tail (tail (tail (tail (tail (tail (V.cells (headD (getT z0.1) V.bot)))))))) V.bot))), (V.int .i64 (getI (headD (tail (tail (tail (tail (tail (tail (tail (V.cells (headD (getT z0.1) V.bot))))))))) V.bot))), (V.int .i64 (getI (headD (tail (tail (tail (tail (tail (tail (tail (tail (V.cells (headD (getT z0.1) V.bot)))))))))) V.bot)))]), (V.agg [(V.lst 3 false []), (V.int .i64 3), (V.lst 9 false l1), (V.bool false), (V.int .i64 0), (V.int .i64 0)])] []) fun z2 =>
 Option.bind (call 28 [(V.lst 5 false l0), (V.agg [(V.int .i64 (getI (headD (V.cells (headD (getT z0.1) V.bot)) V.bot))), (V.int .i64 (getI (headD (tail (V.cells (headD (getT z0.1) V.bot))) V.bot))), (V.int .i64 (getI (headD (tail (tail (V.cells (headD (getT z0.1) V.bot)))) V.bot))), (V.int .i64 (getI (headD (tail (tail (tail (V.cells (headD (getT z0.1) V.bot))))) V.bot))), (V.int .i64 (getI (headD (tail (tail (tail (tail (V.cells (headD (getT z0.1) V.bot)))))) V.bot))), (V.lst 28 false (getL (headD (tail (tail (tail (tail (tail (V.cells (headD (getT z0.1) V.bot))))))) V.bot))), (V.lst 24 false (getL (headD (tail (tail (tail (tail (tail (tail (V.cells (headD (getT z0.1) V.bot)))))))) V.bot))), (V.int .i64 (getI (headD (tail (tail (tail (tail (tail (tail (tail (V.cells (headD (getT z0.1) V.bot))))))))) V.bot))), (V.int .i64 (getI (headD (tail (tail (tail (tail (tail (tail (tail (tail (V.cells (headD (getT z0.1) V.bot)))))))))) V.bot)))]), (V.agg [(V.lst 3 false []), (V.int .i64 3), (V.lst 9 false [(V.str [58])]), (V.bool false), (V.int .i64 0), (V.int .i64 0)])] []) fun z3 =>
 Option.bind (call 28 [(V.lst 5 false l0), (V.agg [(V.int .i64 (getI (headD (V.cells (headD (getT z0.1) V.bot)) V.bot))), (V.int .i64 (getI (headD (tail (V.cells (headD (getT z0.1) V.bot))) V.bot))), (V.int .i64 (getI (headD (tail (tail (V.cells (headD (getT z0.1) V.bot)))) V.bot))), (V.int .i64 (getI (headD (tail (tail (tail (V.cells (headD (getT z0.1) V.bot))))) V.bot))), (V.int .i64 (getI (headD (tail (tail (tail (tail (V.cells (headD (getT z0.1) V.bot)))))) V.bot))), (V.lst 28 false (getL (headD (tail (tail (tail (tail (tail (V.cells (headD (getT z0.1) V.bot))))))) V.bot))), (V.lst 24 false (getL (headD (tail (tail (tail (tail (tail (tail (V.cells (headD (getT z0.1) V.bot)))))))) V.bot))), (V.int .i64 (getI (headD (tail (tail (tail (tail (tail (tail (tail (V.cells (headD (getT z0.1) V.bot))))))))) V.bot))), (V.int .i64 (getI (headD (tail (tail (tail (tail (tail (tail (tail (tail (V.cells (headD (getT z0.1) V.bot)))))))))) V.bot)))]), (V.agg [(V.lst 3 false []), (V.int .i64 2), (V.lst 9 false [(V.str [58])]), (V.bool false), (V.int .i64 0), (V.int .i64 0)])] []) fun z4 =>
 if ((IntKind.wrap .i64 (((length (getL z1.1) : Nat) : Int) + ((length (getL z2.1) : Nat) : Int))) == (IntKind.wrap .i64 (((length (getL z3.1) : Nat) : Int) + (2 : Int)))) = true then
 some ((V.bool (sEq (bytesOf (getL z4.1)) [13, 10])), [])
 else
 some ((V.bool false), [])
def T11_1 (call : FuncId → Fun) (ag0 : List V → List V → Int → Option (V × List Ob)) (ag1 : List V → List V → Int → Int → Option (V × List Ob)) (l0 : List V) (l1 : List V) (i2 : Int) (i3 : Int) : Option (V × List Ob) :=
 chk (decide (0 ≤ i2)) (chk (decide (i2 < ((length l1 : Nat) : Int))) (if (decide (i3 < ((length (getS (getD l1 (Int.toNat i2) V.bot)) : Nat) : Int))) = true then
 Option.bind (chk (decide (0 ≤ i2)) (chk (decide (i2 < ((length l1 : Nat) : Int))) (chk (decide (0 ≤ i3)) (chk (decide (i3 < ((length (getS (getD l1 (Int.toNat i2) V.bot)) : Nat) : Int))) (if (decide (((UInt8.toNat (getD (getS (getD l1 (Int.toNat i2) V.bot)) (Int.toNat i3) 0) : Nat) : Int) < (32 : Int))) = false then
 chk (decide (0 ≤ i2)) (chk (decide (i2 < ((length l1 : Nat) : Int))) (chk (decide (0 ≤ i3)) (chk (decide (i3 < ((length (getS (getD l1 (Int.toNat i2) V.bot)) : Nat) : Int))) (some (decide (((UInt8.toNat (getD (getS (getD l1 (Int.toNat i2) V.bot)) (Int.toNat i3) 0) : Nat) : Int) > (126 : Int)))))))
 else
 some true))))) fun y0 =>
 if y0 = true then
 some ((V.bool true), [])
 else
 (ag1 (l0) (l1) (i2) ((IntKind.wrap .i64 (i3 + (1 : Int)))))
 else
 (ag0 (l0) (l1) ((IntKind.wrap .i64 (i2 + (1 : Int)))))))
def T11 (call : FuncId → Fun) (ag0 : List V → List V → Int → Option (V × List Ob)) (ag1 : List V → List V → Int → Int → Option (V × List Ob)) (a0 : List V) (a1 : List V) : Option (V × List Ob) :=
 Option.bind (call 27 [] []) fun z0 =>
 if (!(getB z0.1)) = true then
 some ((V.bool false), [])
 else
 Option.bind (if (decide (((length a0 : Nat) : Int) > (1000 : Int))) = false then
 if (((length a1 : Nat) : Int) == (0 : Int)) = false then
 some (decide (((length a1 : Nat) : Int) > (6 : Int)))
 else
 some true
 else
 some true) fun y1 =>
 if y1 = true then
 some ((V.bool true), [])
 else
 (ag0 (a0) (a1) ((0 : Int)))
def A11 (a0 : List V) (a1 : List V) : List V := [V.lst 5 false a0, V.lst 9 false a1]
def K11_0 (l0 : List V) (l1 : List V) (i2 : Int) : St := ⟨[(V.lst 5 false l0), (V.lst 9 false l1), V.bot, V.bot, V.bot, V.bot, (V.int IntKind.i64 i2)] ++ List.replicate 99 V.bot, []⟩
def K11_1 (l0 : List V) (l1 : List V) (i2 : Int) (i3 : Int) : St := ⟨[(V.lst 5 false l0), (V.lst 9 false l1), V.bot, V.bot, V.bot, V.bot, (V.int IntKind.i64 i2), (V.int IntKind.i64 i3)] ++ List.replicate 98 V.bot, []⟩
theorem S11_0 (l0 : List V) (l1 : List V) (i2 : Int) :
 RM 11 Tryd.f11 [] call icall again (tdOf Tryd.f11 0) (K11_0 l0 l1 i2) = T11_0 call (fun l0 l1 i2 => again (tdOf Tryd.f11 0) (K11_0 l0 l1 i2)) (fun l0 l1 i2 i3 => again (tdOf Tryd.f11 1) (K11_1 l0 l1 i2 i3)) l0 l1 i2 := by kernel_rfl
theorem S11_1 (l0 : List V) (l1 : List V) (i2 : Int) (i3 : Int) :
 RM 11 Tryd.f11 [] call icall again (tdOf Tryd.f11 1) (K11_1 l0 l1 i2 i3) = T11_1 call (fun l0 l1 i2 => again (tdOf Tryd.f11 0) (K11_0 l0 l1 i2)) (fun l0 l1 i2 i3 => again (tdOf Tryd.f11 1) (K11_1 l0 l1 i2 i3)) l0 l1 i2 i3 := by kernel_rfl
theorem E11 (a0 : List V) (a1 : List V) : GO 11 Tryd.f11 (A11 a0 a1) [] call icall again = T11 call (fun l0 l1 i2 => again (tdOf Tryd.f11 0) (K11_0 l0 l1 i2)) (fun l0 l1 i2 i3 => again (tdOf Tryd.f11 1) (K11_1 l0 l1 i2 i3)) a0 a1 := by kernel_rfl
def L11 (call : FuncId → Fun) : Nat → (List V → List V → Int → Option (V × List Ob)) × (List V → List V → Int → Int → Option (V × List Ob))
 | 0 => ⟨fun _ _ _ => none, fun _ _ _ _ => none⟩
 | n + 1 => ⟨T11_0 call (L11 call n).1 (L11 call n).2, T11_1 call (L11 call n).1 (L11 call n).2⟩
theorem R11 (call : FuncId → Fun) (icall : ICall (V × List Ob)) : ∀ n, (∀ (l0 : List V) (l1 : List V) (i2 : Int), RN 11 Tryd.f11 [] call icall n (tdOf Tryd.f11 0) (K11_0 l0 l1 i2) = (L11 call n).1 l0 l1 i2) ∧ (∀ (l0 : List V) (l1 : List V) (i2 : Int) (i3 : Int), RN 11 Tryd.f11 [] call icall n (tdOf Tryd.f11 1) (K11_1 l0 l1 i2 i3) = (L11 call n).2 l0 l1 i2 i3)
  | 0 => ⟨fun l0 l1 i2 => rfl, fun l0 l1 i2 i3 => rfl⟩
  | n + 1 => by
    have ih := R11 call icall n
    exact ⟨fun l0 l1 i2 => (S11_0 call icall (RN 11 Tryd.f11 [] call icall n) l0 l1 i2).trans (by rw [show (fun l0 l1 i2 => RN 11 Tryd.f11 [] call icall n (tdOf Tryd.f11 0) (K11_0 l0 l1 i2)) = (L11 call n).1 from (funext fun l0 => funext fun l1 => funext fun i2 => ih.1 l0 l1 i2), show (fun l0 l1 i2 i3 => RN 11 Tryd.f11 [] call icall n (tdOf Tryd.f11 1) (K11_1 l0 l1 i2 i3)) = (L11 call n).2 from (funext fun l0 => funext fun l1 => funext fun i2 => funext fun i3 => ih.2 l0 l1 i2 i3)]; rfl),
      fun l0 l1 i2 i3 => (S11_1 call icall (RN 11 Tryd.f11 [] call icall n) l0 l1 i2 i3).trans (by rw [show (fun l0 l1 i2 => RN 11 Tryd.f11 [] call icall n (tdOf Tryd.f11 0) (K11_0 l0 l1 i2)) = (L11 call n).1 from (funext fun l0 => funext fun l1 => funext fun i2 => ih.1 l0 l1 i2), show (fun l0 l1 i2 i3 => RN 11 Tryd.f11 [] call icall n (tdOf Tryd.f11 1) (K11_1 l0 l1 i2 i3)) = (L11 call n).2 from (funext fun l0 => funext fun l1 => funext fun i2 => funext fun i3 => ih.2 l0 l1 i2 i3)]; rfl)⟩
theorem C11 (k : Nat) (a0 : List V) (a1 : List V) : callN cfg (k + 1) 11 (A11 a0 a1) [] = T11 (callN cfg k) (L11 (callN cfg k) k).1 (L11 (callN cfg k) k).2 a0 a1 := by
 have ih := R11 (callN cfg k) (icallN cfg (callN cfg k) 20) k
 refine (show callN cfg (k + 1) 11 (A11 a0 a1) [] = GO 11 Tryd.f11 (A11 a0 a1) [] (callN cfg k) (icallN cfg (callN cfg k) 20) (RN 11 Tryd.f11 [] (callN cfg k) (icallN cfg (callN cfg k) 20) k) by kernel_rfl).trans ((E11 _ _ _ a0 a1).trans ?_)
 rw [show (fun l0 l1 i2 => RN 11 Tryd.f11 [] (callN cfg k) (icallN cfg (callN cfg k) 20) k (tdOf Tryd.f11 0) (K11_0 l0 l1 i2)) = (L11 (callN cfg k) k).1 from (funext fun l0 => funext fun l1 => funext fun i2 => ih.1 l0 l1 i2), show (fun l0 l1 i2 i3 => RN 11 Tryd.f11 [] (callN cfg k) (icallN cfg (callN cfg k) 20) k (tdOf Tryd.f11 1) (K11_1 l0 l1 i2 i3)) = (L11 (callN cfg k) k).2 from (funext fun l0 => funext fun l1 => funext fun i2 => funext fun i3 => ih.2 l0 l1 i2 i3)]
theorem M11 (a0 : List V) (a1 : List V) {r : V × List Ob} (h : Evt (fun k n => T11 (callN cfg k) (L11 (callN cfg k) n).1 (L11 (callN cfg k) n).2 a0 a1) r) : Ret 11 [V.lst 5 false a0, V.lst 9 false a1] [] r := ret_mk (g := fun k n => T11 (callN cfg k) (L11 (callN cfg k) n).1 (L11 (callN cfg k) n).2 a0 a1) (fun k => C11 k a0 a1) h
theorem N11_0 (l0 : List V) (l1 : List V) (i2 : Int) {r : V × List Ob} (h : Evt (fun k n => T11_0 (callN cfg k) (L11 (callN cfg k) n).1 (L11 (callN cfg k) n).2 l0 l1 i2) r) : Evt (fun k n => (L11 (callN cfg k) n).1 l0 l1 i2) r := evt_step (fun k n => rfl) h
theorem N11_1 (l0 : List V) (l1 : List V) (i2 : Int) (i3 : Int) {r : V × List Ob} (h : Evt (fun k n => T11_1 (callN cfg k) (L11 (callN cfg k) n).1 (L11 (callN cfg k) n).2 l0 l1 i2 i3) r) : Evt (fun k n => (L11 (callN cfg k) n).2 l0 l1 i2 i3) r := evt_step (fun k n => rfl) h
end Go.Proofs.YtemgbdncidgoiaaDoor
end
section
namespace Go.Proofs.YtemgbdncidgoiaaDoor
open Go.Ev Go
theorem namedF_colon {s : Bs} {p : Bs × Nat} (h : namedF s = some p) : (58 : UInt8) ∉ p.1 := by
  unfold namedF at h
  split at h
  · cases h
  · rename_i hk
    obtain ⟨k, hk'⟩ : ∃ k : Nat, Lib.indexByte s 58 = k := ⟨(Lib.indexByte s 58).toNat, by omega⟩
    have hno := (Lib.indexByte_some hk').2
    rw [hk'] at h
    simp only [Int.toNat_natCast] at h
    split at h
    · cases h
      intro hm
      obtain ⟨j, hj, e⟩ := List.mem_iff_getElem.1 hm
      rw [List.length_take] at hj
      have hb := backN_le s k
      refine hno j (by omega) ?_
      rw [List.getElem_take] at e
      rw [List.getElem?_eq_getElem (by omega), e]
    · cases h
theorem setTo_nm {l : List Fd} {to : Nat} (h : ∀ f ∈ l, (58 : UInt8) ∉ f.1) : ∀ f ∈ setTo l to, (58 : UInt8) ∉ f.1 := by
  intro f hf
  unfold setTo at hf
  split at hf
  · rename_i g hg
    rcases List.mem_or_eq_of_mem_set hf with hf | rfl
    · exact h f hf
    · exact h g (List.mem_of_getElem? hg)
  · exact h f hf
theorem stepH_nm {b : Bs} {st : List Fd × Bool} {x : Ln} (h : ∀ f ∈ st.1, (58 : UInt8) ∉ f.1) : ∀ f ∈ (stepH b st x).1, (58 : UInt8) ∉ f.1 := by
  unfold stepH
  split
  · split
    · exact setTo_nm h
    · exact h
  · split
    · exact h
    · rename_i p hp
      intro f hf
      rw [List.mem_append] at hf
      rcases hf with hf | hf
      · exact h f hf
      · simp at hf; subst hf; exact namedF_colon hp
theorem foldH_nm {b : Bs} : ∀ (l : List Ln) (st : List Fd × Bool), (∀ f ∈ st.1, (58 : UInt8) ∉ f.1) → ∀ f ∈ (l.foldl (stepH b) st).1, (58 : UInt8) ∉ f.1
  | [], st, h => h
  | x :: r, st, h => foldH_nm r _ (stepH_nm h)
theorem headF_nm (b : Bs) (fr to : Int) : ∀ f ∈ (headF b fr to).1, (58 : UInt8) ∉ f.1 := by
  unfold headF
  split
  · simp
  · split
    · exact foldH_nm _ _ (by simp)
    · exact foldH_nm _ _ (by simp)
theorem low8_colon (c : UInt8) : low8 c = 58 → c = 58 := all_bytes (p := fun c => low8 c = 58 → c = 58) (by decide +kernel) c
def colB : Bs := [58]
theorem has_colon {x : Bs} (h : (58 : UInt8) ∉ x) : hasN [colB] x = false := by
  have hl : low colB = [58] := by kernel_rfl
  unfold hasN
  rw [List.any_cons, List.any_nil, Bool.or_false, hl]
  refine beq_eq_false_iff_ne.2 fun e => ?_
  cases x with
  | nil => cases e
  | cons c r =>
    have e2 : low8 c :: r.map low8 = [58] := e
    simp only [List.cons.injEq] at e2
    have := low8_colon c e2.1
    subst this
    exact h (by simp)
def pieceF (b : Bs) (f : Fd) : Bs := if f.2.1 ≤ f.2.2.2 ∧ f.2.2.2 ≤ b.length then subF b f.2.1 f.2.2.2 ++ (if f.2.2.2 = f.2.1 ∨ b.getD (f.2.2.2 - 1) 0 ≠ 10 then [13, 10] else []) else []
theorem stepS_piece (b : Bs) (names : List Bs) (but : Bool) (out : Bs) (f : Fd) : stepS b names but out f = if hasN names f.1 = but then out else out ++ pieceF b f := by
  unfold stepS pieceF
  split
  · rfl
  · split
    · rw [List.append_assoc]
    · rw [List.append_nil]
def sumS (b : Bs) (names : List Bs) (but : Bool) : List Fd → Nat
  | [] => 0
  | f :: r => (if hasN names f.1 = but then 0 else (pieceF b f).length) + sumS b names but r
theorem foldS_len (b : Bs) (names : List Bs) (but : Bool) : ∀ (l : List Fd) (out : Bs), (l.foldl (stepS b names but) out).length = out.length + sumS b names but l
  | [], out => rfl
  | f :: r, out => by
    rw [List.foldl_cons, foldS_len b names but r, stepS_piece, sumS]
    split
    · omega
    · rw [List.length_append]; omega
theorem someF_len (b : Bs) (l : List Fd) (names : List Bs) (but : Bool) : (someF b l names but).length = sumS b names but l + 2 := by
  unfold someF
  rw [List.length_append, foldS_len]
  simp only [List.length_nil, List.length_cons]; omega
theorem sum_both (b : Bs) (names : List Bs) : ∀ l : List Fd, (∀ f ∈ l, (58 : UInt8) ∉ f.1) → sumS b names false l + sumS b names true l = sumS b [colB] true l
  | [], _ => rfl
  | f :: r, h => by
    have ih := sum_both b names r fun g hg => h g (by simp [hg])
    rw [sumS, sumS, sumS, has_colon (h f (by simp))]
    generalize (pieceF b f).length = L
    have e0 : (if (false : Bool) = true then 0 else L) = L := if_neg (by decide)
    have e1 : (if (true : Bool) = false then 0 else L) = L := if_neg (by decide)
    have e2 : (if (true : Bool) = true then 0 else L) = 0 := if_pos rfl
    have e3 : (if (false : Bool) = false then 0 else L) = 0 := if_pos rfl
    cases hasN names f.1 with
    | true => rw [e0, e1, e2]; omega
    | false => rw [e0, e3]; omega
theorem some_colon (b : Bs) (l : List Fd) (h : ∀ f ∈ l, (58 : UInt8) ∉ f.1) : someF b l [colB] false = [13, 10] := by
  have hf : ∀ l : List Fd, (∀ f ∈ l, (58 : UInt8) ∉ f.1) → ∀ out, l.foldl (stepS b [colB] false) out = out := by
    intro l
    induction l with
    | nil => intro _ out; rfl
    | cons f r ih =>
      intro h out
      rw [List.foldl_cons, stepS_piece, if_pos (has_colon (h f (by simp)))]
      exact ih (fun g hg => h g (by simp [hg])) out
  unfold someF
  rw [hf l h]; rfl
def spN (w : Int) (names : List Bs) : Sp := ⟨[], w, names, false, 0, 0⟩
theorem gets_N (b : Bs) (p : Pt) {w : Int} {names : List Bs} (hw : w = 2 ∨ w = 3) (h1 : 1 ≤ names.length ∧ names.length ≤ 100) (h2 : names.all (fun n => n.all prB) = true) :
    getsF b p (spN w names) = someF b (headF b (p.hd.1 : Nat) (p.hd.2 : Nat)).1 names (decide (w = 3)) := by
  have hc : checkF (spN w names) = true := by
    rcases hw with rfl | rfl <;> simp [checkF, spN, h1, h2]
  unfold getsF allF
  rw [if_neg (by simp [spN]), if_pos hc, if_pos (by simp [spN])]
  unfold messageF
  rcases hw with rfl | rfl <;> simp [spN]
theorem spN_ok {w : Int} {names : List Bs} (h1 : names.length ≤ 1000000) (h2 : ∀ n ∈ names, n.length ≤ 1000000) : SpOk (spN w names) := ⟨h1, h2, by simp [spN]⟩
theorem fin11 (b : Bs) (hb : b.length ≤ 1000) (names : List Bs) (h1 : 1 ≤ names.length ∧ names.length ≤ 6) (h2 : ∀ n ∈ names, n.length ≤ 30 ∧ n.all prB = true) (i : Nat) (hi : i = names.length) :
    Evt (fun k j => (L11 (callN cfg k) j).1 (ofBytes b) (names.map V.str) (i : Nat)) (.bool true, []) := by
  refine N11_0 (ofBytes b) (names.map V.str) (i : Nat) ?_
  have g1 : ¬ (((i : Nat) : Int) < ((names.length : Nat) : Int)) := by omega
  have r15 := ret15 b (by omega)
  have cT := entF_n b 32 0 b.length false 1 (by omega)
  have cT2 := entF_cnt b 32 0 b.length false 1
  generalize (entF b 32 0 b.length false 1).1 = T at *
  have hc : cntF T ≤ 1000000 := by omega
  have hall : names.all (fun n => n.all prB) = true := List.all_eq_true.2 fun n hn => (h2 n hn).2
  have hlen : ∀ n ∈ names, n.length ≤ 1000000 := fun n hn => by have := (h2 n hn).1; omega
  have gx := ret28 b (by omega) T hc (spN 2 names) (spN_ok (by omega) hlen)
  have gy := ret28 b (by omega) T hc (spN 3 names) (spN_ok (by omega) hlen)
  have ga := ret28 b (by omega) T hc (spN 3 [colB]) (spN_ok (by simp) (by simp [colB]))
  have gn := ret28 b (by omega) T hc (spN 2 [colB]) (spN_ok (by simp) (by simp [colB]))
  have hcol : ([colB] : List Bs).all (fun n => n.all prB) = true := by kernel_rfl
  rw [gets_N b T (.inl rfl) (by omega) hall] at gx
  rw [gets_N b T (.inr rfl) (by omega) hall] at gy
  rw [gets_N b T (.inr rfl) (by simp) hcol] at ga
  rw [gets_N b T (.inl rfl) (by simp) hcol] at gn
  have hnm := headF_nm b (T.hd.1 : Nat) (T.hd.2 : Nat)
  obtain ⟨_, hfl⟩ := headF_ok b (T.hd.1 : Nat) (T.hd.2 : Nat)
  generalize (headF b (T.hd.1 : Nat) (T.hd.2 : Nat)).1 = l at *
  have d2 : decide ((2 : Int) = 3) = false := rfl
  have d3 : decide ((3 : Int) = 3) = true := rfl
  rw [d2] at gx gn
  rw [d3] at gy ga
  rw [some_colon b l hnm] at gn
  have s1 := someF_len b l names false
  have s2 := someF_len b l names true
  have s3 := someF_len b l [colB] true
  have s4 := sum_both b names l hnm
  have hbnd : ∀ (nm : List Bs) (but : Bool), (someF b l nm but).length ≤ 1002 * 1000 + 2 := by
    intro nm but
    have hf : ∀ (l : List Fd) (out : Bs), (l.foldl (stepS b nm but) out).length ≤ out.length + (b.length + 2) * l.length := by
      intro l
      induction l with
      | nil => intro out; simp
      | cons f r ih =>
        intro out
        have h1 := ih (stepS b nm but out f)
        have h2 := stepS_len b nm but out f
        rw [List.foldl_cons, List.length_cons, Nat.mul_add, Nat.mul_one]
        omega
    have q1 := hf l []
    have q2 : (b.length + 2) * l.length ≤ 1002 * 1000 := Nat.mul_le_mul (by omega) (by omega)
    unfold someF
    rw [List.length_append]
    simp only [List.length_nil, List.length_cons] at q1 ⊢
    omega
  have b1 := hbnd names false
  have b2 := hbnd names true
  have b3 := hbnd [colB] true
  generalize someF b l names false = x at *
  generalize someF b l names true = y at *
  generalize someF b l [colB] true = a at *
  have w1 : IntKind.wrap .i64 (((x.length : Nat) : Int) + ((y.length : Nat) : Int)) = ((x.length + y.length : Nat) : Int) := by rw [wrap64 (by omega) (by omega)]; omega
  have w2 : IntKind.wrap .i64 (((a.length : Nat) : Int) + 2) = ((x.length + y.length : Nat) : Int) := by rw [wrap64 (by omega) (by omega)]; omega
  simp only [T11_0, g1, decide_false, Bool.false_eq_true, if_false, List.length_map]
  refine evt_bind r15 ?_
  simp only [getT_tup, List.headD_cons, List.tail_cons, eta_part]
  refine evt_bind gx ?_
  refine evt_bind gy ?_
  refine evt_bind ga ?_
  refine evt_bind gn ?_
  simp only [getL_lst, ofBytes_length, bytesOf_ofBytes, w1, w2, beq_self_eq_true, if_true, sEq_refl]
  exact evt_some _
theorem loop11_1 (b : Bs) (names : List Bs) (i : Nat) (hlt : i < names.length) (hl : names.length ≤ 1000000) (h30 : names[i].length ≤ 30)
    (hnext : names[i].all prB = true → Evt (fun k j => (L11 (callN cfg k) j).1 (ofBytes b) (names.map V.str) ((i + 1 : Nat) : Int)) (.bool true, [])) :
    ∀ (m c : Nat), names[i].length - c = m → c ≤ names[i].length → (names[i].take c).all prB = true →
    Evt (fun k j => (L11 (callN cfg k) j).2 (ofBytes b) (names.map V.str) (i : Nat) (c : Nat)) (.bool true, [])
  | 0, c, h, hc, hp => by
    refine N11_1 (ofBytes b) (names.map V.str) (i : Nat) (c : Nat) ?_
    have hg : (names.map V.str).getD i .bot = .str names[i] := by simp [List.getD, hlt]
    have h2 : (0 : Int) ≤ (i : Nat) := by omega
    have h3 : ((i : Nat) : Int) < ((names.length : Nat) : Int) := by omega
    have h4 : ¬ (((c : Nat) : Int) < ((names[i].length : Nat) : Int)) := by omega
    have hw : IntKind.wrap .i64 (((i : Nat) : Int) + 1) = ((i + 1 : Nat) : Int) := by rw [wrap64 (by omega) (by omega)]; omega
    rw [List.take_of_length_le (by omega)] at hp
    simp only [T11_1, List.length_map, chk_p h2, chk_p h3, Int.toNat_natCast, hg, getS_str, h4, decide_false, Bool.false_eq_true, if_false, hw]
    exact hnext hp
  | m + 1, c, h, hc, hp => by
    have hcl : c < names[i].length := by omega
    refine N11_1 (ofBytes b) (names.map V.str) (i : Nat) (c : Nat) ?_
    have hg : (names.map V.str).getD i .bot = .str names[i] := by simp [List.getD, hlt]
    have h2 : (0 : Int) ≤ (i : Nat) := by omega
    have h3 : ((i : Nat) : Int) < ((names.length : Nat) : Int) := by omega
    have h4 : (((c : Nat) : Int) < ((names[i].length : Nat) : Int)) := by omega
    have h5 : (0 : Int) ≤ (c : Nat) := by omega
    have hw : IntKind.wrap .i64 (((c : Nat) : Int) + 1) = ((c + 1 : Nat) : Int) := by rw [wrap64 (by omega) (by omega)]; omega
    simp only [T11_1, List.length_map, chk_p h2, chk_p h3, Int.toNat_natCast, hg, getS_str, h4, decide_true, if_true, chk_p h5, chk_t, getD_at hcl, hw]
    by_cases q1 : ((names[i][c].toNat : Nat) : Int) < 32
    · simp only [q1, decide_true, Bool.true_eq_false, if_false, bind_s, if_true]
      exact evt_some _
    · by_cases q2 : ((names[i][c].toNat : Nat) : Int) > 126
      · simp only [q1, q2, decide_true, decide_false, if_true, bind_s]
        exact evt_some _
      · have hp2 : prB names[i][c] = true := by unfold prB; exact decide_eq_true (by omega)
        simp only [q1, q2, decide_false, if_true, bind_s, Bool.false_eq_true, if_false]
        refine loop11_1 b names i hlt hl h30 hnext m (c + 1) (by omega) (by omega) ?_
        rw [List.take_add_one, List.all_append, hp, List.getElem?_eq_getElem hcl]
        simp [hp2]
theorem loop11_0 (b : Bs) (hb : b.length ≤ 1000) (names : List Bs) (h1 : 1 ≤ names.length ∧ names.length ≤ 6) : ∀ (m i : Nat), names.length - i = m → i ≤ names.length → (∀ n ∈ names.take i, n.length ≤ 30 ∧ n.all prB = true) →
    Evt (fun k j => (L11 (callN cfg k) j).1 (ofBytes b) (names.map V.str) (i : Nat)) (.bool true, [])
  | 0, i, h, hi, hp => by
    rw [List.take_of_length_le (by omega)] at hp
    exact fin11 b hb names h1 hp i (by omega)
  | m + 1, i, h, hi, hp => by
    have hlt : i < names.length := by omega
    refine N11_0 (ofBytes b) (names.map V.str) (i : Nat) ?_
    have hg : (names.map V.str).getD i .bot = .str names[i] := by simp [List.getD, hlt]
    have h2 : (0 : Int) ≤ (i : Nat) := by omega
    have h3 : ((i : Nat) : Int) < ((names.length : Nat) : Int) := by omega
    simp only [T11_0, List.length_map, h3, decide_true, if_true, chk_p h2, chk_t, Int.toNat_natCast, hg, getS_str]
    by_cases h30 : names[i].length ≤ 30
    · have q : ¬ (((names[i].length : Nat) : Int) > 30) := by omega
      simp only [q, decide_false, Bool.false_eq_true, if_false]
      refine loop11_1 b names i hlt (by omega) h30 (fun hpr => ?_) names[i].length 0 (by omega) (by omega) (by simp)
      refine loop11_0 b hb names h1 m (i + 1) (by omega) (by omega) fun n hn => ?_
      rw [List.take_add_one, List.mem_append, List.getElem?_eq_getElem hlt] at hn
      rcases hn with hn | hn
      · exact hp n hn
      · simp at hn; subst hn; exact ⟨h30, hpr⟩
    · have q : (((names[i].length : Nat) : Int) > 30) := by omega
      simp only [q, decide_true, if_true]
      exact evt_some _
theorem ret11 (b : Bs) (names : List Bs) : Ret 11 [.lst 5 false (ofBytes b), .lst 9 false (names.map V.str)] [] (.bool true, []) := by
  refine M11 (ofBytes b) (names.map V.str) ?_
  simp only [T11]
  refine evt_bind ret27 ?_
  simp only [getB_bool, Bool.not_true, Bool.false_eq_true, if_false, ofBytes_length, List.length_map]
  refine evt_opt (v := decide (1000 < b.length ∨ names.length = 0 ∨ 6 < names.length)) ?_ ?_
  · by_cases q1 : 1000 < b.length
    · have q1' : ((b.length : Nat) : Int) > 1000 := by omega
      simp only [q1, q1', decide_true, Bool.true_eq_false, if_false, true_or]
    · have q1' : ¬ (((b.length : Nat) : Int) > 1000) := by omega
      by_cases q2 : names.length = 0
      · have q2' : (((names.length : Nat) : Int) == (0 : Int)) = true := by rw [q2]; rfl
        simp only [q1', q2', decide_false, if_true, Bool.true_eq_false, if_false]
        rw [decide_eq_true (show 1000 < b.length ∨ names.length = 0 ∨ 6 < names.length from .inr (.inl q2))]
      · have q2' : (((names.length : Nat) : Int) == (0 : Int)) = false := by
          have : ¬ (((names.length : Nat) : Int) = 0) := by omega
          simpa using this
        have q3 : decide (((names.length : Nat) : Int) > 6) = decide (6 < names.length) := by
          by_cases q : 6 < names.length
          · have : ((names.length : Nat) : Int) > 6 := by omega
            simp only [q, this, decide_true]
          · have : ¬ (((names.length : Nat) : Int) > 6) := by omega
            simp only [q, this, decide_false]
        simp only [q1, q1', q2', q2, decide_false, if_true, false_or, q3]
  · by_cases q : 1000 < b.length ∨ names.length = 0 ∨ 6 < names.length
    · simp only [q, decide_true, if_true]
      exact evt_some _
    · simp only [q, decide_false, Bool.false_eq_true, if_false]
      exact loop11_0 b (by omega) names (by omega) names.length 0 (by omega) (by omega) (by simp)
end Go.Proofs.YtemgbdncidgoiaaDoor
end
section
namespace Go.Proofs.YtemgbdncidgoiaaDoor
open Go.ChangeShapes Go.WideShapes Go.ChangeAt Go.RowKit Go.Ev
theorem cells5 : Tryd.prog.cellsOf 5 = 1 := by kernel_rfl
theorem size5 : tySize cfg 5 = 1 := by kernel_rfl
theorem fits5 (n : Int) : fitsE cfg 5 (.int .u8 n) = true := by kernel_rfl
theorem flat_u8 (zs : List Int) : flat (zs.map (Value.int .u8)) = zs.map (Value.int .u8) := by
  induction zs with
  | nil => rfl
  | cons z zs ih => simp only [flat, List.map_cons, List.flatMap_cons, Value.cells] at ih ⊢; rw [ih]; rfl
theorem slice_block {P : Program} {w : World} {r : Reach} {base : Nat} {t e : TypeId} {a : Addr} {len cap : Nat} (ht : P.underlying t = some (.slice e)) (h : Value.okWide P w r base t (.slice (some a) len cap)) : a.block < w.heap.size := by
  simp only [Value.okWide, ht, Cell.okWide, Cell.ok] at h
  obtain ⟨_, _, _, _, row, cells, hs, _⟩ := h
  unfold World.shape? at hs
  by_cases hb : a.block < w.heap.size
  · exact hb
  · rw [Array.getElem?_eq_none (by omega)] at hs
    simp at hs
set_option maxRecDepth 100000 in
theorem bytes_in {H : Type} {enc : TypeId × Value → H} {W : World} {base : Nat} {v : Value} {d : DataW H} {p : List MemPlace} (hval : Value.okWide Tryd.prog W .any base 32 v)
    (h : DataW.Trod enc Tryd.prog W 0 (fun _ => true) true 32 v d p) :
    ∃ vs : List UInt8, Rep cfg W (sizes W) [] (.lst 5 false (ofBytes vs)) v ∧
      ∀ W', Kept W W' → ∀ sp : Nat → Bool, (∀ x ∈ p, sp x.block = true) → DataW.Trod enc Tryd.prog W' 0 sp true 32 v d p := by
  obtain ⟨a1, len, cap, rfl⟩ := okWide_slice Tryd.underlying32 hval
  obtain ⟨fuel, hf⟩ := h
  rcases open_ints Tryd.underlying32 Tryd.underlying5 cells5 hf with ⟨hcs, hx⟩ | ⟨a, len', cap', zs, hcs, _, hl, hm, hz, hx, hcell, hwz⟩
  · simp [Value.cells] at hcs
    obtain ⟨rfl, rfl, rfl⟩ := hcs
    simp only [Prod.mk.injEq] at hx
    obtain ⟨rfl, rfl⟩ := hx
    refine ⟨[], ?_, fun W' _ sp _ => shut_slice_nil Tryd.underlying32⟩
    exact Rep.lst 5 false [] none 0 [] rfl (fun i v x h => by simp at h) (fun v h => by cases h) (fun x h => by cases h) (by rw [size5]; omega) (Nat.le_refl _) ⟨fun _ => rfl, fun p h => by cases h⟩ (fun p h => by cases h)
  · simp [Value.cells] at hcs
    obtain ⟨rfl, rfl, rfl⟩ := hcs
    simp only [Prod.mk.injEq] at hx
    obtain ⟨rfl, rfl⟩ := hx
    have hblk : a.block < W.heap.size := slice_block Tryd.underlying32 hval
    have hsn : some a = none → cap = 0 := fun h => by cases h
    have hsb : ∀ p, some a = some p → p.block < W.heap.size := fun p hp => by cases hp; exact hblk
    simp only [if_true] at hz
    have hrng : ∀ n ∈ zs, 0 ≤ n ∧ n < 256 := fun n hn => by have := bounds_u8 (hwz n hn); omega
    refine ⟨(zs.take len).map fun n => UInt8.ofNat n.toNat, ?_, fun W' hk sp hsp => ?_⟩
    · have hxs : ofBytes ((zs.take len).map fun n => UInt8.ofNat n.toNat) = (zs.take len).map (V.int .u8) := by
        unfold ofBytes
        rw [List.map_map]
        refine List.map_congr_left fun n hn => ?_
        have := hrng n (List.mem_of_mem_take hn)
        simp only [Function.comp, UInt8.toNat_ofNat']
        congr 1
        omega
      have hlen : (ofBytes ((zs.take len).map fun n => UInt8.ofNat n.toNat)).length = len := by rw [hxs]; simp; omega
      have := Rep.lst (c := cfg) (w := W) (G := sizes W) (μ := []) 5 false (ofBytes ((zs.take len).map fun n => UInt8.ofNat n.toNat)) (some a) cap ((zs.take len).map (Value.int .u8)) (by rw [hlen]; simp; omega) (fun i v x hv hx => by
          rw [hxs] at hv
          obtain ⟨n, h1, rfl⟩ := get_map hv
          obtain ⟨n', h2, rfl⟩ := get_map hx
          rw [h1] at h2; cases h2
          exact .int _ _) (fun v hv => by
          rw [hxs] at hv
          obtain ⟨n, _, rfl⟩ := List.mem_map.1 hv
          exact fits5 n) (fun x hx => by
          obtain ⟨n, _, rfl⟩ := List.mem_map.1 hx
          rw [size5]; rfl) (by rw [size5]; omega) (by rw [hlen]; exact hl) ⟨hsn, hsb⟩ (fun p hp hne => by
          cases hp
          have hl0 : 0 < len := by
            rcases Nat.eq_zero_or_pos len with h0 | h0
            · exact absurd (List.eq_nil_of_length_eq_zero (hlen.trans h0)) hne
            · exact h0
          obtain ⟨ab, ao, spot⟩ := a
          have hspot : spot = none := by simpa [Addr.add] using World.cell?_spot (hcell 0 (by omega))
          subst hspot
          refine ⟨rfl, ?_⟩
          rw [flat_u8]
          refine srow_sizes fun j x hj => ?_
          have hjl := (List.getElem?_eq_some_iff.1 hj).1
          rw [List.length_map, List.length_take] at hjl
          have hjl : j < len ∧ j < zs.length := by omega
          have hc := hcell j (by omega)
          rw [Addr.add_lit] at hc
          rw [hc]
          rw [List.getElem?_map, List.getElem?_take, if_pos hjl.1, List.getElem?_eq_getElem hjl.2] at hj
          simp at hj
          rw [← hj]; simp [List.getD, hjl.2])
      rw [hlen] at this
      exact this
    · have hzl : zs.length = (if sp a.block then cap else len) := by
        rcases Nat.eq_zero_or_pos zs.length with h0 | h0
        · split <;> omega
        · have : sp a.block = true := hsp (.cell a.block (a.off + 0)) (by simp only [MemPlace.row, List.mem_map, List.mem_range]; exact ⟨0, h0, rfl⟩)
          rw [if_pos this]; exact hz
      exact ⟨2, shut_ints 0 Tryd.underlying32 Tryd.underlying5 cells5 (Nat.zero_le _) hl hm hzl (fun i hi => hk.cell _ _ (hcell i hi)) hwz⟩
end Go.Proofs.YtemgbdncidgoiaaDoor
end
section
namespace Go.Proofs.YtemgbdncidgoiaaDoor
open Go.ChangeShapes Go.WideShapes Go.ChangeAt Go.RowKit Go.Ev
section
variable {H : Type} {enc : TypeId × Value → H} {P : Program} {w : World} {base : Nat} {spare : Nat → Bool} {held : Bool}
theorem shut_cells {t e : TypeId} {a : Addr} {len cap n : Nat} {f : Nat → Value} {g : Nat → DataW H} (m : Nat) (ht : P.underlying t = some (.slice e)) (hc : P.cellsOf e = 1) (hb : base ≤ a.block) (hl : len ≤ cap) (hm : cap ≤ maxLen)
    (hn : n = (if spare a.block then cap else len)) (hcell : ∀ i, i < n → w.cell? (a.add i) = some (f i)) (hone : ∀ i, i < n → DataW.trod enc P w base spare held (m + 1) e [f i] = some (g i, [])) :
    DataW.trod enc P w base spare held (m + 2) t [.slice (some a) len cap] = some (.slice ((List.range len).map g) ((List.range (n - len)).map fun j => g (len + j)), MemPlace.row a n) := by
  have hlz : len ≤ n := by rw [hn]; split <;> omega
  have each : ∀ i, i < n → (w.cells? base (a.add (i * P.cellsOf e)) (P.cellsOf e)).bind (DataW.trod enc P w base spare held (m + 1) e) = some ((g i, []) : DataW H × List MemPlace) := by
    intro i hi
    rw [hc, Nat.mul_one, cells?_one (by rw [block_add]; exact hb) (hcell i hi)]
    exact hone i hi
  have none_of : ∀ l : List Nat, ∀ q : Nat → DataW H, (l.map fun i => ((q i, []) : DataW H × List MemPlace)).flatMap (·.2) = [] := by
    intro l q
    induction l with
    | nil => rfl
    | cons x r ih => rw [List.map_cons, List.flatMap_cons, ih]; rfl
  rw [DataW.trod_step]
  unfold DataW.trodStep
  simp only [ht]
  rw [if_pos ⟨hb, hl, hm⟩, mapM_range_of len (fun i hi => each i (by omega))]
  simp only [Option.bind_some]
  cases hs : spare a.block with
  | false =>
    have hzl : n = len := by simpa [hs] using hn
    subst hzl
    simp [hc, Function.comp_def, none_of]
  | true =>
    have hzl : n = cap := by simpa [hs] using hn
    subst hzl
    simp only [if_true]
    rw [mapM_range_of (n - len) (fun j hj => each (len + j) (by omega))]
    have e1 : len + (n - len) = n := by omega
    simp [hc, Function.comp_def, none_of, e1]
theorem trod_str {t : TypeId} {s : ByteArray} (m : Nat) (ht : P.underlying t = some .string) (hs : s.size ≤ maxLen) : DataW.trod enc P w base spare held (m + 1) t [.string s] = some (.lit (.string s.data.toList), []) := by
  simp [DataW.trod, ht, hs]
end
theorem cells9 : Tryd.prog.cellsOf 9 = 1 := by kernel_rfl
theorem size9 : tySize cfg 9 = 1 := by kernel_rfl
theorem fits9 (s : List UInt8) : fitsE cfg 9 (.str s) = true := by kernel_rfl
theorem flat_str (zs : List ByteArray) : flat (zs.map Value.string) = zs.map Value.string := by
  induction zs with
  | nil => rfl
  | cons z zs ih => simp only [flat, List.map_cons, List.flatMap_cons, Value.cells] at ih ⊢; rw [ih]; rfl
theorem strs_take {H : Type} (ss : List ByteArray) (len : Nat) (h : len ≤ ss.length) : (strs (ss.take len) : List (DataW H)) = (List.range len).map fun i => .lit (.string (ss.getD i ByteArray.empty).data.toList) := by
  unfold strs
  apply List.ext_getElem?
  intro i
  by_cases hi : i < len
  · simp [hi, List.getD, show i < ss.length by omega]
  · simp [hi, List.getElem?_take]
theorem strs_drop {H : Type} (ss : List ByteArray) (len : Nat) : (strs (ss.drop len) : List (DataW H)) = (List.range (ss.length - len)).map fun j => .lit (.string (ss.getD (len + j) ByteArray.empty).data.toList) := by
  unfold strs
  apply List.ext_getElem?
  intro j
  by_cases hj : j < ss.length - len
  · simp [hj, List.getD, show len + j < ss.length by omega]
  · simp [hj]
set_option maxRecDepth 100000 in
theorem strs_in {H : Type} {enc : TypeId × Value → H} {W : World} {base : Nat} {v : Value} {d : DataW H} {p : List MemPlace} (hval : Value.okWide Tryd.prog W .any base 58 v)
    (h : DataW.Trod enc Tryd.prog W 0 (fun _ => true) true 58 v d p) :
    ∃ ss : List (List UInt8), Rep cfg W (sizes W) [] (.lst 9 false (ss.map V.str)) v ∧
      ∀ W', Kept W W' → ∀ sp : Nat → Bool, (∀ x ∈ p, sp x.block = true) → DataW.Trod enc Tryd.prog W' 0 sp true 58 v d p := by
  obtain ⟨a1, len, cap, rfl⟩ := okWide_slice Tryd.underlying58 hval
  obtain ⟨fuel, hf⟩ := h
  rcases open_strings Tryd.underlying58 Tryd.underlying9 cells9 hf with ⟨hcs, hx⟩ | ⟨a, len', cap', zs, hcs, _, hl, hm, hz, hx, hcell, hwz⟩
  · simp [Value.cells] at hcs
    obtain ⟨rfl, rfl, rfl⟩ := hcs
    simp only [Prod.mk.injEq] at hx
    obtain ⟨rfl, rfl⟩ := hx
    refine ⟨[], ?_, fun W' _ sp _ => shut_slice_nil Tryd.underlying58⟩
    exact Rep.lst 9 false [] none 0 [] rfl (fun i v x h => by simp at h) (fun v h => by cases h) (fun x h => by cases h) (by rw [size9]; omega) (Nat.le_refl _) ⟨fun _ => rfl, fun p h => by cases h⟩ (fun p h => by cases h)
  · simp [Value.cells] at hcs
    obtain ⟨rfl, rfl, rfl⟩ := hcs
    simp only [Prod.mk.injEq] at hx
    obtain ⟨rfl, rfl⟩ := hx
    have hblk : a.block < W.heap.size := slice_block Tryd.underlying58 hval
    have hsn : some a = none → cap = 0 := fun h => by cases h
    have hsb : ∀ p, some a = some p → p.block < W.heap.size := fun p hp => by cases hp; exact hblk
    simp only [if_true] at hz
    refine ⟨(zs.take len).map fun s => s.data.toList, ?_, fun W' hk sp hsp => ?_⟩
    · have hlen : (((zs.take len).map fun s => s.data.toList).map V.str).length = len := by simp; omega
      have := Rep.lst (c := cfg) (w := W) (G := sizes W) (μ := []) 9 false (((zs.take len).map fun s => s.data.toList).map V.str) (some a) cap ((zs.take len).map Value.string) (by rw [hlen]; simp; omega) (fun i v x hv hx => by
          rw [List.map_map] at hv
          obtain ⟨n, h1, rfl⟩ := get_map hv
          obtain ⟨n', h2, rfl⟩ := get_map hx
          rw [h1] at h2; cases h2
          simpa using Rep.str n.data.toList) (fun v hv => by
          rw [List.map_map] at hv
          obtain ⟨n, _, rfl⟩ := List.mem_map.1 hv
          exact fits9 _) (fun x hx => by
          obtain ⟨n, _, rfl⟩ := List.mem_map.1 hx
          rw [size9]; rfl) (by rw [size9]; omega) (by rw [hlen]; exact hl) ⟨hsn, hsb⟩ (fun p hp hne => by
          cases hp
          have hl0 : 0 < len := by
            rcases Nat.eq_zero_or_pos len with h0 | h0
            · exact absurd (List.eq_nil_of_length_eq_zero (hlen.trans h0)) hne
            · exact h0
          obtain ⟨ab, ao, spot⟩ := a
          have hspot : spot = none := by simpa [Addr.add] using World.cell?_spot (hcell 0 (by omega))
          subst hspot
          refine ⟨rfl, ?_⟩
          rw [flat_str]
          refine srow_sizes fun j x hj => ?_
          have hjl := (List.getElem?_eq_some_iff.1 hj).1
          rw [List.length_map, List.length_take] at hjl
          have hjl : j < len ∧ j < zs.length := by omega
          have hc := hcell j (by omega)
          rw [Addr.add_lit] at hc
          rw [hc]
          rw [List.getElem?_map, List.getElem?_take, if_pos hjl.1, List.getElem?_eq_getElem hjl.2] at hj
          simp at hj
          rw [← hj]; simp [List.getD, hjl.2])
      rw [hlen] at this
      exact this
    · have hzl : zs.length = (if sp a.block then cap else len) := by
        rcases Nat.eq_zero_or_pos zs.length with h0 | h0
        · split <;> omega
        · have : sp a.block = true := hsp (.cell a.block (a.off + 0)) (by simp only [MemPlace.row, List.mem_map, List.mem_range]; exact ⟨0, h0, rfl⟩)
          rw [if_pos this]; exact hz
      rw [strs_take zs len (by omega), strs_drop zs len]
      exact ⟨2, shut_cells (f := fun i => .string (zs.getD i ByteArray.empty)) 0 Tryd.underlying58 cells9 (Nat.zero_le _) hl hm hzl (fun i hi => hk.cell _ _ (hcell i hi)) (fun i hi => trod_str 0 Tryd.underlying9 (hwz _ (by
        have : zs.getD i ByteArray.empty = zs[i] := by simp [List.getD, hi]
        rw [this]
        exact List.getElem_mem hi)))⟩
end Go.Proofs.YtemgbdncidgoiaaDoor
end
