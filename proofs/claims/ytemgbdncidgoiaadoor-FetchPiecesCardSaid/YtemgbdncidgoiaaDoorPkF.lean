/- Lemmas for the claim, merged: the plain reading of the program's functions, its soundness, and what they compute. -/
import Derived.Test.YtemgbdncidgoiaaDoorPkE
import Derived.KernelRfl
import Derived.ChangeSlices
import Derived.SliceStrings
import Derived.SizedLaws
set_option linter.all false
set_option linter.unusedVariables false
set_option linter.unusedSimpArgs false
section
namespace Go.Proofs.YtemgbdncidgoiaaDoor
open Go.Ev Go
def Pt.kd : Pt → Nat | .mk k _ _ _ _ _ => k
def Pt.hd : Pt → Nat × Nat | .mk _ h _ _ _ _ => h
def Pt.bd : Pt → Nat × Nat | .mk _ _ b _ _ _ => b
def Pt.ks : Pt → List Pt | .mk _ _ _ l _ _ => l
def Pt.cs : Pt → List (Nat × Nat) | .mk _ _ _ _ c _ => c
def Pt.en : Pt → Nat × Nat | .mk _ _ _ _ _ e => e
def zeroP : Pt := leafP 0 0 0
theorem part_agg (p : Pt) : V.agg [.int .i64 (p.kd : Nat), .int .i64 (p.hd.1 : Nat), .int .i64 (p.hd.2 : Nat), .int .i64 (p.bd.1 : Nat), .int .i64 (p.bd.2 : Nat), .lst 28 false (p.ks.map partV), .lst 24 false (p.cs.map cutV), .int .i64 (p.en.1 : Nat), .int .i64 (p.en.2 : Nat)] = partV p := by
  cases p; rw [partV, partVL_eq]; rfl
theorem cells_part (p : Pt) : V.cells (partV p) = [.int .i64 (p.kd : Nat), .int .i64 (p.hd.1 : Nat), .int .i64 (p.hd.2 : Nat), .int .i64 (p.bd.1 : Nat), .int .i64 (p.bd.2 : Nat), .lst 28 false (p.ks.map partV), .lst 24 false (p.cs.map cutV), .int .i64 (p.en.1 : Nat), .int .i64 (p.en.2 : Nat)] := by
  rw [← part_agg]; rfl
theorem getD_ks {l : List Pt} {i : Nat} (h : i < l.length) : (l.map partV).getD i .bot = partV (l.getD i zeroP) := by simp [List.getD, h]
theorem cnt_mem : ∀ {l : List Pt} {q : Pt}, q ∈ l → cntF q ≤ cntL l
  | p :: r, q, h => by
    rw [cntL]
    rcases List.mem_cons.1 h with rfl | h
    · omega
    · have := cnt_mem h; omega
theorem cnt_ks (p : Pt) : cntF p = 1 + cntL p.ks := by cases p; rw [cntF]; rfl
theorem getD_mem {l : List Pt} {i : Nat} (h : i < l.length) : l.getD i zeroP ∈ l := by
  have : l.getD i zeroP = l[i] := by simp [List.getD, h]
  rw [this]; exact List.getElem_mem h
def belowF (p : Pt) (n : Int) : Option Pt := if p.kd = 1 then (if n < 1 ∨ (p.ks.length : Int) < n then none else some (p.ks.getD (n.toNat - 1) zeroP)) else if n = 1 then some p else none
def toldP (o : Option Pt) : V := .tup [partV (o.getD zeroP), .bool o.isSome]
theorem told_none : toldP none = .tup [.agg [.int .i64 0, .int .i64 0, .int .i64 0, .int .i64 0, .int .i64 0, .lst 28 false [], .lst 24 false [], .int .i64 0, .int .i64 0], .bool false] := by
  unfold toldP zeroP
  rw [show (none : Option Pt).getD (leafP 0 0 0) = leafP 0 0 0 from rfl, leaf_V]; rfl
theorem told_some (p : Pt) : toldP (some p) = .tup [partV p, .bool true] := rfl
theorem ret50 (p : Pt) (hc : cntF p ≤ 1000000) (n : Int) : Ret 50 [partV p, .int .i64 n] [] (toldP (belowF p n), []) := by
  have hkl := cntL_len p.ks
  have hk := cnt_ks p
  rw [← part_agg p]
  refine M50 (p.kd : Nat) (p.hd.1 : Nat) (p.hd.2 : Nat) (p.bd.1 : Nat) (p.bd.2 : Nat) (p.ks.map partV) (p.cs.map cutV) (p.en.1 : Nat) (p.en.2 : Nat) n ?_
  simp only [T50, List.length_map]
  unfold belowF
  by_cases hk1 : p.kd = 1
  · have g1 : (((p.kd : Nat) : Int) == (1 : Int)) = true := by rw [hk1]; rfl
    rw [if_pos hk1]
    simp only [g1, if_true]
    by_cases hn : n < 1 ∨ (p.ks.length : Int) < n
    · rw [if_pos hn, told_none]
      refine evt_opt (v := true) ?_ ?_
      · by_cases h1 : n < 1
        · simp [h1]
        · have h2 : n > ((p.ks.length : Nat) : Int) := by omega
          simp [h1, h2]
      · simp only [if_true]; exact evt_some _
    · rw [if_neg hn]
      have e1 : ¬ (n < 1) := by omega
      have e2 : ¬ (n > ((p.ks.length : Nat) : Int)) := by omega
      obtain ⟨N, rfl⟩ : ∃ N : Nat, n = ((N + 1 : Nat) : Int) := ⟨n.toNat - 1, by omega⟩
      have hlt : N < p.ks.length := by omega
      have hw : IntKind.wrap .i64 (((N + 1 : Nat) : Int) - 1) = ((N : Nat) : Int) := by rw [wrap64 (by omega) (by omega)]; omega
      have h2 : (0 : Int) ≤ (N : Nat) := by omega
      have h3 : ((N : Nat) : Int) < ((p.ks.length : Nat) : Int) := by omega
      refine evt_opt (v := false) ?_ ?_
      · simp only [e1, e2, decide_false, if_true]
      · simp only [Bool.false_eq_true, if_false, hw, chk_p h2, chk_p h3, Int.toNat_natCast, getD_ks hlt, eta_part, Nat.add_sub_cancel, told_some]
        exact evt_some _
  · have g1 : (((p.kd : Nat) : Int) == (1 : Int)) = false := by
      have : ¬ (((p.kd : Nat) : Int) = 1) := by omega
      simpa using this
    rw [if_neg hk1]
    simp only [g1, Bool.false_eq_true, if_false, part_agg]
    by_cases hn : n = 1
    · have g2 : (n == (1 : Int)) = true := by simp [hn]
      rw [if_pos hn, told_some]
      simp only [g2, if_true]
      exact evt_some _
    · have g2 : (n == (1 : Int)) = false := by simp [hn]
      rw [if_neg hn, told_none]
      simp only [g2, Bool.false_eq_true, if_false]
      exact evt_some _
def stepP (p : Pt) : Option Pt := if p.kd = 2 ∧ 0 < p.ks.length then some (p.ks.getD 0 zeroP) else if p.kd = 1 then some p else none
def findR : Pt → List Int → Option Pt
  | p, [] => some p
  | p, n :: r => match stepP p with
    | none => none
    | some q => match belowF q n with
      | none => none
      | some q' => findR q' r
def findP (p : Pt) : List Int → Option Pt
  | [] => none
  | n :: r => match belowF p n with
    | none => none
    | some q => findR q r
theorem below_cnt {p q : Pt} {n : Int} (h : belowF p n = some q) : cntF q ≤ cntF p := by
  unfold belowF at h
  split at h
  · split at h
    · cases h
    · rename_i hn
      cases h
      have := cnt_mem (getD_mem (l := p.ks) (i := n.toNat - 1) (by omega))
      rw [cnt_ks p]; omega
  · split at h
    · cases h; omega
    · cases h
theorem step_cnt {p q : Pt} (h : stepP p = some q) : cntF q ≤ cntF p := by
  unfold stepP at h
  split at h
  · rename_i hk
    cases h
    have := cnt_mem (getD_mem (l := p.ks) (i := 0) hk.2)
    rw [cnt_ks p]; omega
  · split at h
    · cases h; omega
    · cases h
noncomputable def LA (call : FuncId → Go.Ev.Fun) (j : Nat) (is : Bool) (path : List Int) (i : Int) (p : Pt) : Option (V × List Ob) :=
  L36 call j is (path.map pathV) (path.length : Nat) i (p.kd : Nat) (p.hd.1 : Nat) (p.hd.2 : Nat) (p.bd.1 : Nat) (p.bd.2 : Nat) (p.ks.map partV) (p.cs.map cutV) (p.en.1 : Nat) (p.en.2 : Nat) 0 0 0 0 0 [] [] 0 0
theorem getD_path {l : List Int} {i : Nat} (h : i < l.length) : (l.map pathV).getD i .bot = .int .i64 l[i] := by simp [List.getD, h, pathV]
theorem loop36 (path : List Int) (hpl : path.length ≤ 1000000) : ∀ (m i : Nat) (p : Pt), path.length - i = m → i ≤ path.length → 0 < i → cntF p ≤ 1000000 →
    Evt (fun k j => LA (callN cfg k) j true path (i : Nat) p) (toldP (findR p (path.drop i)), [])
  | 0, i, p, h, hi, h0, hc => by
    refine N36_0 true (path.map pathV) (path.length : Nat) (i : Nat) (p.kd : Nat) (p.hd.1 : Nat) (p.hd.2 : Nat) (p.bd.1 : Nat) (p.bd.2 : Nat) (p.ks.map partV) (p.cs.map cutV) (p.en.1 : Nat) (p.en.2 : Nat) 0 0 0 0 0 [] [] 0 0 ?_
    have h1 : ¬ (((i : Nat) : Int) < ((path.length : Nat) : Int)) := by omega
    rw [List.drop_eq_nil_of_le (by omega), findR, told_some]
    simp only [T36_0, h1, decide_false, Bool.false_eq_true, if_false, Bool.not_true, part_agg]
    exact evt_some _
  | m + 1, i, p, h, hi, h0, hc => by
    have hlt : i < path.length := by omega
    refine N36_0 true (path.map pathV) (path.length : Nat) (i : Nat) (p.kd : Nat) (p.hd.1 : Nat) (p.hd.2 : Nat) (p.bd.1 : Nat) (p.bd.2 : Nat) (p.ks.map partV) (p.cs.map cutV) (p.en.1 : Nat) (p.en.2 : Nat) 0 0 0 0 0 [] [] 0 0 ?_
    have h1 : (((i : Nat) : Int) < ((path.length : Nat) : Int)) := by omega
    have h2 : (0 : Int) ≤ (i : Nat) := by omega
    have h3 : ((i : Nat) : Int) > 0 := by omega
    have hw : IntKind.wrap .i64 (((i : Nat) : Int) + 1) = ((i + 1 : Nat) : Int) := by rw [wrap64 (by omega) (by omega)]; omega
    have hd : path.drop i = path[i] :: path.drop (i + 1) := List.drop_eq_getElem_cons hlt
    rw [hd, findR]
    simp only [T36_0, h1, decide_true, if_true, chk_p h2, List.length_map, chk_t, h3, Int.toNat_natCast, getD_path hlt, getI_int, hw, part_agg]
    by_cases hk : p.kd = 2 ∧ 0 < p.ks.length
    · have g1 : (((p.kd : Nat) : Int) == (2 : Int)) = true := by rw [hk.1]; rfl
      have g2 : ((p.ks.length : Nat) : Int) > 0 := by omega
      have g3 : (0 : Int) < ((p.ks.length : Nat) : Int) := by omega
      have hs : stepP p = some (p.ks.getD 0 zeroP) := by unfold stepP; rw [if_pos hk]
      have hsc := step_cnt hs
      refine evt_opt (v := true) (by simp only [g1, g2, if_true, decide_true]) ?_
      simp only [if_true, chk_p (Int.le_refl 0), chk_p g3, Int.toNat_zero, getD_ks hk.2, eta_part, hs]
      refine evt_bind (ret50 (p.ks.getD 0 zeroP) (by omega) path[i]) ?_
      cases hbl : belowF (p.ks.getD 0 zeroP) path[i] with
      | none =>
        simp only [told_none, getT_tup, List.headD_cons, List.tail_cons, getB_bool, Bool.not_false, if_true]
        exact evt_some _
      | some q =>
        have hqc := below_cnt hbl
        simp only [told_some, getT_tup, List.headD_cons, List.tail_cons, getB_bool, Bool.not_true, Bool.false_eq_true, if_false, cells_part, getI_int, getL_lst]
        exact loop36 path hpl m (i + 1) q (by omega) (by omega) (by omega) (by omega)
    · refine evt_opt (v := false) ?_ ?_
      · by_cases g : p.kd = 2
        · have g1 : (((p.kd : Nat) : Int) == (2 : Int)) = true := by rw [g]; rfl
          have g2 : ¬ (((p.ks.length : Nat) : Int) > 0) := by omega
          simp only [g1, g2, if_true, decide_false]
        · have g1 : (((p.kd : Nat) : Int) == (2 : Int)) = false := by
            have : ¬ (((p.kd : Nat) : Int) = 2) := by omega
            simpa using this
          simp only [g1, Bool.false_eq_true, if_false]
      · simp only [Bool.false_eq_true, if_false]
        by_cases hk1 : p.kd = 1
        · have g1 : (((p.kd : Nat) : Int) != (1 : Int)) = false := by rw [hk1]; rfl
          have hs : stepP p = some p := by unfold stepP; rw [if_neg hk, if_pos hk1]
          simp only [g1, Bool.false_eq_true, if_false, hs]
          refine evt_bind (ret50 p hc path[i]) ?_
          cases hbl : belowF p path[i] with
          | none =>
            simp only [told_none, getT_tup, List.headD_cons, List.tail_cons, getB_bool, Bool.not_false, if_true]
            exact evt_some _
          | some q =>
            have hqc := below_cnt hbl
            simp only [told_some, getT_tup, List.headD_cons, List.tail_cons, getB_bool, Bool.not_true, Bool.false_eq_true, if_false, cells_part, getI_int, getL_lst]
            exact loop36 path hpl m (i + 1) q (by omega) (by omega) (by omega) (by omega)
        · have g1 : (((p.kd : Nat) : Int) != (1 : Int)) = true := by
            have : ¬ (((p.kd : Nat) : Int) = 1) := by omega
            simpa using this
          have hs : stepP p = none := by unfold stepP; rw [if_neg hk, if_neg hk1]
          simp only [g1, if_true, Bool.not_false, hs, told_none]
          exact evt_some _
theorem ret36 (p : Pt) (hc : cntF p ≤ 1000000) (path : List Int) (hpl : path.length ≤ 1000000) : Ret 36 [partV p, .lst 3 false (path.map pathV)] [] (toldP (findP p path), []) := by
  rw [← part_agg p]
  refine M36 (p.kd : Nat) (p.hd.1 : Nat) (p.hd.2 : Nat) (p.bd.1 : Nat) (p.bd.2 : Nat) (p.ks.map partV) (p.cs.map cutV) (p.en.1 : Nat) (p.en.2 : Nat) (path.map pathV) ?_
  simp only [T36, List.length_map]
  refine N36_0 false (path.map pathV) (path.length : Nat) 0 (p.kd : Nat) (p.hd.1 : Nat) (p.hd.2 : Nat) (p.bd.1 : Nat) (p.bd.2 : Nat) (p.ks.map partV) (p.cs.map cutV) (p.en.1 : Nat) (p.en.2 : Nat) 0 0 0 0 0 [] [] 0 0 ?_
  cases path with
  | nil =>
    have h1 : ¬ ((0 : Int) < ((([] : List Int).length : Nat) : Int)) := by simp
    rw [findP, told_none]
    simp only [T36_0, h1, decide_false, Bool.false_eq_true, if_false, Bool.not_false, if_true]
    exact evt_some _
  | cons n r =>
    have h1 : ((0 : Int) < (((n :: r).length : Nat) : Int)) := by simp only [List.length_cons]; omega
    have h3 : ¬ ((0 : Int) > 0) := by omega
    have hw : IntKind.wrap .i64 ((0 : Int) + 1) = ((0 + 1 : Nat) : Int) := by rw [wrap64 (by omega) (by omega)]; rfl
    have hg : ((n :: r).map pathV).getD 0 .bot = .int .i64 n := rfl
    rw [findP]
    simp only [T36_0, h1, decide_true, if_true, chk_p (Int.le_refl 0), List.length_map, chk_t, h3, decide_false, Bool.false_eq_true, if_false, Int.toNat_zero, hg, getI_int, hw, part_agg]
    refine evt_bind (ret50 p hc n) ?_
    cases hbl : belowF p n with
    | none =>
      simp only [told_none, getT_tup, List.headD_cons, List.tail_cons, getB_bool, Bool.not_false, if_true]
      exact evt_some _
    | some q =>
      have hqc := below_cnt hbl
      simp only [told_some, getT_tup, List.headD_cons, List.tail_cons, getB_bool, Bool.not_true, Bool.false_eq_true, if_false, cells_part, getI_int, getL_lst]
      exact loop36 (n :: r) hpl r.length 1 q (by simp) (by simp) (by omega) (by omega)
def messageF (b : Bs) (p : Pt) (s : Sp) : Bs :=
  if s.what = 0 then bytesF b p.hd.1 p.bd.2 else if s.what = 1 then bytesF b p.hd.1 p.hd.2 else if s.what = 4 then bytesF b p.bd.1 p.bd.2 else
  if s.what = 3 then someF b (headF b (p.hd.1 : Nat) (p.hd.2 : Nat)).1 s.names true else if s.what = 2 then someF b (headF b (p.hd.1 : Nat) (p.hd.2 : Nat)).1 s.names false else []
def allF (b : Bs) (p : Pt) (s : Sp) : Bs :=
  if checkF s then (if s.path.length = 0 then messageF b p s else match findP p s.path with
    | none => []
    | some q => if s.what = 0 then bytesF b q.bd.1 q.bd.2 else if s.what = 5 then bytesF b q.hd.1 q.hd.2 else if q.kd = 2 ∧ 0 < q.ks.length then messageF b (q.ks.getD 0 zeroP) s else [])
  else []
def cutB (o : Bs) (fr many : Int) : Bs := if fr < 0 ∨ (o.length : Int) < fr ∨ many < 1 then [] else subF o fr.toNat (fr.toNat + min many.toNat (o.length - fr.toNat))
def getsF (b : Bs) (p : Pt) (s : Sp) : Bs := if s.cut then cutB (allF b p s) s.fr s.many else allF b p s
def SpOk (s : Sp) : Prop := s.names.length ≤ 1000000 ∧ (∀ n ∈ s.names, n.length ≤ 1000000) ∧ s.path.length ≤ 1000000
theorem beq_dec (x y : Int) : (x == y) = decide (x = y) := by by_cases h : x = y <;> simp [h]
theorem ret52 (b : Bs) (hb : b.length ≤ 100000) (p : Pt) (s : Sp) (hs : SpOk s) : Ret 52 [.lst 5 false (ofBytes b), partV p, specV s] [] (.lst 5 false (ofBytes (messageF b p s)), []) := by
  rw [← part_agg p]
  refine M52 (ofBytes b) (p.kd : Nat) (p.hd.1 : Nat) (p.hd.2 : Nat) (p.bd.1 : Nat) (p.bd.2 : Nat) (p.ks.map partV) (p.cs.map cutV) (p.en.1 : Nat) (p.en.2 : Nat) (s.path.map pathV) s.what (s.names.map V.str) s.cut s.fr s.many ?_
  obtain ⟨k1, k2⟩ := headF_ok b (p.hd.1 : Nat) (p.hd.2 : Nat)
  have k3 := headF_in b p.hd.1 p.hd.2
  simp only [T52, beq_dec]
  unfold messageF
  by_cases w0 : s.what = 0
  · simp only [w0, decide_true, if_true]
    refine evt_bind (ret53 b (by omega) _ _) ?_
    simp only [getL_lst]; exact evt_some _
  by_cases w1 : s.what = 1
  · simp only [w0, w1, decide_true, decide_false, Bool.false_eq_true, if_true, if_false]
    refine evt_bind (ret53 b (by omega) _ _) ?_
    simp only [getL_lst]; exact evt_some _
  by_cases w4 : s.what = 4
  · simp only [w0, w1, w4, decide_true, decide_false, Bool.false_eq_true, if_true, if_false]
    refine evt_bind (ret53 b (by omega) _ _) ?_
    simp only [getL_lst]; exact evt_some _
  by_cases w3 : s.what = 3
  · simp only [w0, w1, w4, w3, decide_true, decide_false, Bool.false_eq_true, if_true, if_false]
    refine evt_bind (ret39 b (by omega) (p.hd.1 : Nat) (p.hd.2 : Nat)) ?_
    simp only [getT_tup, List.headD_cons, getL_lst]
    refine evt_bind (ret72 b hb s.names hs.1 hs.2.1 true _ (by omega) (fun f hf => ⟨by have := k1 f hf; omega, by have := k3 f hf; omega⟩)) ?_
    simp only [getL_lst]; exact evt_some _
  by_cases w2 : s.what = 2
  · simp only [w0, w1, w4, w3, w2, decide_true, decide_false, Bool.false_eq_true, if_true, if_false]
    refine evt_bind (ret39 b (by omega) (p.hd.1 : Nat) (p.hd.2 : Nat)) ?_
    simp only [getT_tup, List.headD_cons, getL_lst]
    refine evt_bind (ret72 b hb s.names hs.1 hs.2.1 false _ (by omega) (fun f hf => ⟨by have := k1 f hf; omega, by have := k3 f hf; omega⟩)) ?_
    simp only [getL_lst]; exact evt_some _
  · simp only [w0, w1, w4, w3, w2, decide_false, Bool.false_eq_true, if_false]
    exact evt_some _
theorem spec_agg (s : Sp) : V.agg [.lst 3 false (s.path.map pathV), .int .i64 s.what, .lst 9 false (s.names.map V.str), .bool s.cut, .int .i64 s.fr, .int .i64 s.many] = specV s := rfl
theorem ret37 (b : Bs) (hb : b.length ≤ 100000) (p : Pt) (hc : cntF p ≤ 1000000) (s : Sp) (hs : SpOk s) : Ret 37 [.lst 5 false (ofBytes b), partV p, specV s] [] (.lst 5 false (ofBytes (allF b p s)), []) := by
  rw [← part_agg p]
  refine M37 (ofBytes b) (p.kd : Nat) (p.hd.1 : Nat) (p.hd.2 : Nat) (p.bd.1 : Nat) (p.bd.2 : Nat) (p.ks.map partV) (p.cs.map cutV) (p.en.1 : Nat) (p.en.2 : Nat) (s.path.map pathV) s.what (s.names.map V.str) s.cut s.fr s.many ?_
  simp only [T37, part_agg, spec_agg, List.length_map]
  refine evt_bind (ret51 s hs.1 hs.2.1 hs.2.2) ?_
  unfold allF
  cases hck : checkF s with
  | false =>
    have g : ((1 : Int) != (0 : Int)) = true := rfl
    simp only [Bool.false_eq_true, if_false, getI_int, g, if_true]
    exact evt_some _
  | true =>
    have g : ((0 : Int) != (0 : Int)) = false := rfl
    simp only [if_true, getI_int, g, Bool.false_eq_true, if_false]
    by_cases hp0 : s.path.length = 0
    · have g1 : (((s.path.length : Nat) : Int) == (0 : Int)) = true := by rw [hp0]; rfl
      simp only [g1, if_true, if_pos hp0]
      refine evt_bind (ret52 b hb p s hs) ?_
      simp only [getL_lst]; exact evt_some _
    · have g1 : (((s.path.length : Nat) : Int) == (0 : Int)) = false := by
        have : ¬ (((s.path.length : Nat) : Int) = 0) := by omega
        simpa using this
      simp only [g1, Bool.false_eq_true, if_false, if_neg hp0]
      refine evt_bind (ret36 p hc s.path hs.2.2) ?_
      cases hf : findP p s.path with
      | none =>
        simp only [told_none, getT_tup, List.headD_cons, List.tail_cons, getB_bool, Bool.not_false, if_true]
        exact evt_some _
      | some q =>
        simp only [told_some, getT_tup, List.headD_cons, List.tail_cons, getB_bool, Bool.not_true, Bool.false_eq_true, if_false, cells_part, getI_int, getL_lst, beq_dec, List.length_map]
        by_cases w0 : s.what = 0
        · simp only [w0, decide_true, if_true]
          refine evt_bind (ret53 b (by omega) _ _) ?_
          simp only [getL_lst]; exact evt_some _
        by_cases w5 : s.what = 5
        · simp only [w0, w5, decide_true, decide_false, Bool.false_eq_true, if_true, if_false]
          refine evt_bind (ret53 b (by omega) _ _) ?_
          simp only [getL_lst]; exact evt_some _
        · simp only [w0, w5, decide_false, Bool.false_eq_true, if_false]
          by_cases hk : q.kd = 2 ∧ 0 < q.ks.length
          · have g2 : ((q.ks.length : Nat) : Int) > 0 := by omega
            have g3 : (0 : Int) < ((q.ks.length : Nat) : Int) := by omega
            have g4 : (((q.kd : Nat) : Int) = 2) := by omega
            rw [if_pos hk]
            refine evt_opt (v := true) (by simp only [g4, g2, if_true, decide_true]) ?_
            simp only [if_true, chk_p (Int.le_refl 0), chk_p g3, Int.toNat_zero, getD_ks hk.2, eta_part]
            refine evt_bind (ret52 b hb _ s hs) ?_
            simp only [getL_lst]; exact evt_some _
          · rw [if_neg hk]
            refine evt_opt (v := false) ?_ ?_
            · by_cases g : q.kd = 2
              · have g1 : (((q.kd : Nat) : Int) = 2) := by omega
                have g2 : ¬ (((q.ks.length : Nat) : Int) > 0) := by omega
                simp only [g1, g2, if_true, decide_true, decide_false]
              · have g1 : ¬ (((q.kd : Nat) : Int) = 2) := by omega
                simp only [g1, decide_false, Bool.false_eq_true, if_false]
            · simp only [Bool.false_eq_true, if_false]
              exact evt_some _
theorem ret30 (b : Bs) (hb : b.length ≤ 100000) (p : Pt) (hc : cntF p ≤ 1000000) (s : Sp) (hs : SpOk s) : Ret 30 [.lst 5 false (ofBytes b), partV p, specV s] [] (.int .i64 ((allF b p s).length : Nat), []) := by
  rw [← part_agg p]
  refine M30 (ofBytes b) (p.kd : Nat) (p.hd.1 : Nat) (p.hd.2 : Nat) (p.bd.1 : Nat) (p.bd.2 : Nat) (p.ks.map partV) (p.cs.map cutV) (p.en.1 : Nat) (p.en.2 : Nat) (s.path.map pathV) s.what (s.names.map V.str) s.cut s.fr s.many ?_
  simp only [T30, part_agg, spec_agg]
  refine evt_bind (ret37 b hb p hc s hs) ?_
  simp only [getL_lst, ofBytes_length]
  exact evt_some _
theorem ret38 (o : Bs) (ho : o.length ≤ 1000000000) (fr many : Int) : Ret 38 [.lst 5 false (ofBytes o), .int .i64 fr, .int .i64 many] [] (.lst 5 false (ofBytes (cutB o fr many)), []) := by
  refine M38 (ofBytes o) fr many ?_
  simp only [T38, ofBytes_length]
  unfold cutB
  by_cases h : fr < 0 ∨ (o.length : Int) < fr ∨ many < 1
  · rw [if_pos h]
    refine evt_opt (v := true) ?_ ?_
    · by_cases h1 : fr < 0
      · simp [h1]
      · by_cases h2 : fr > ((o.length : Nat) : Int)
        · simp [h1, h2]
        · have h3 : many < 1 := by omega
          simp [h1, h2, h3]
    · simp only [if_true]; exact evt_some _
  · rw [if_neg h]
    have e1 : ¬ (fr < 0) := by omega
    have e2 : ¬ (fr > ((o.length : Nat) : Int)) := by omega
    have e3 : ¬ (many < 1) := by omega
    obtain ⟨F, rfl⟩ : ∃ F : Nat, fr = F := ⟨fr.toNat, by omega⟩
    obtain ⟨M, rfl⟩ : ∃ M : Nat, many = M := ⟨many.toNat, by omega⟩
    have hw1 : IntKind.wrap .i64 (((o.length : Nat) : Int) - ((F : Nat) : Int)) = ((o.length - F : Nat) : Int) := by rw [wrap64 (by omega) (by omega)]; omega
    have hmin : (if ((o.length - F : Nat) : Int) < ((M : Nat) : Int) then ((o.length - F : Nat) : Int) else ((M : Nat) : Int)) = ((min M (o.length - F) : Nat) : Int) := by split <;> omega
    have hw2 : IntKind.wrap .i64 (((F : Nat) : Int) + ((min M (o.length - F) : Nat) : Int)) = ((F + min M (o.length - F) : Nat) : Int) := by rw [wrap64 (by omega) (by omega)]; omega
    have k1 : (0 : Int) ≤ ((F + min M (o.length - F) : Nat) : Int) := by omega
    have k2 : ((F + min M (o.length - F) : Nat) : Int) ≤ ((o.length : Nat) : Int) := by omega
    have k3 : (0 : Int) ≤ ((F : Nat) : Int) := by omega
    have k4 : ((F : Nat) : Int) ≤ ((F + min M (o.length - F) : Nat) : Int) := by omega
    refine evt_opt (v := false) (by simp only [e1, e2, e3, decide_false, if_true]) ?_
    simp only [Bool.false_eq_true, if_false, hw1, hmin, hw2, chk_p k1, chk_p k2, chk_p k3, chk_p k4, Int.toNat_natCast, ofB_sub]
    refine evt_bind (ret54 _ (by have := subF_le o F (F + min M (o.length - F)); omega)) ?_
    simp only [getL_lst]; exact evt_some _
theorem messageF_le (b : Bs) (p : Pt) (s : Sp) : (messageF b p s).length ≤ b.length + (b.length + 2) * b.length + 2 := by
  have hsome : ∀ but, (someF b (headF b (p.hd.1 : Nat) (p.hd.2 : Nat)).1 s.names but).length ≤ (b.length + 2) * b.length + 2 := by
    intro but
    obtain ⟨_, k2⟩ := headF_ok b (p.hd.1 : Nat) (p.hd.2 : Nat)
    have hf : ∀ (l : List Fd) (out : Bs), (l.foldl (stepS b s.names but) out).length ≤ out.length + (b.length + 2) * l.length := by
      intro l
      induction l with
      | nil => intro out; simp
      | cons f r ih =>
        intro out
        have h1 := ih (stepS b s.names but out f)
        have h2 := stepS_len b s.names but out f
        rw [List.foldl_cons, List.length_cons, Nat.mul_add, Nat.mul_one]
        omega
    have h1 := hf (headF b (p.hd.1 : Nat) (p.hd.2 : Nat)).1 []
    have h2 : (b.length + 2) * (headF b (p.hd.1 : Nat) (p.hd.2 : Nat)).1.length ≤ (b.length + 2) * b.length := Nat.mul_le_mul_left _ k2
    unfold someF
    rw [List.length_append]
    simp only [List.length_nil, List.length_cons] at h1 ⊢
    omega
  unfold messageF
  split
  · have := bytesF_le b p.hd.1 p.bd.2; omega
  split
  · have := bytesF_le b p.hd.1 p.hd.2; omega
  split
  · have := bytesF_le b p.bd.1 p.bd.2; omega
  split
  · have := hsome true; omega
  split
  · have := hsome false; omega
  · simp
theorem allF_le (b : Bs) (p : Pt) (s : Sp) : (allF b p s).length ≤ b.length + (b.length + 2) * b.length + 2 := by
  unfold allF
  split
  · split
    · exact messageF_le b p s
    · split
      · simp
      · rename_i q _
        split
        · have := bytesF_le b q.bd.1 q.bd.2; omega
        split
        · have := bytesF_le b q.hd.1 q.hd.2; omega
        split
        · exact messageF_le b _ s
        · simp
  · simp
theorem ret28 (b : Bs) (hb : b.length ≤ 3000) (p : Pt) (hc : cntF p ≤ 1000000) (s : Sp) (hs : SpOk s) : Ret 28 [.lst 5 false (ofBytes b), partV p, specV s] [] (.lst 5 false (ofBytes (getsF b p s)), []) := by
  have hle := allF_le b p s
  have hle2 : (b.length + 2) * b.length ≤ 3002 * 3000 := Nat.mul_le_mul (by omega) hb
  rw [← part_agg p]
  refine M28 (ofBytes b) (p.kd : Nat) (p.hd.1 : Nat) (p.hd.2 : Nat) (p.bd.1 : Nat) (p.bd.2 : Nat) (p.ks.map partV) (p.cs.map cutV) (p.en.1 : Nat) (p.en.2 : Nat) (s.path.map pathV) s.what (s.names.map V.str) s.cut s.fr s.many ?_
  simp only [T28, part_agg, spec_agg]
  refine evt_bind (ret37 b (by omega) p hc s hs) ?_
  simp only [getL_lst]
  unfold getsF
  cases s.cut with
  | true =>
    simp only [if_true]
    refine evt_bind (ret38 (allF b p s) (by omega) s.fr s.many) ?_
    simp only [getL_lst]; exact evt_some _
  | false =>
    simp only [Bool.false_eq_true, if_false]
    exact evt_some _
end Go.Proofs.YtemgbdncidgoiaaDoor
end
section
namespace Go.Proofs.YtemgbdncidgoiaaDoor
open Go.Ev Go
open List (headD tail getD length drop take)
open V (getI getL getT getS getB)
set_option maxRecDepth 100000
variable (call : FuncId → Fun) (icall : ICall (V × List Ob)) (again : List It → St → Option (V × List Ob))
def T27 (call : FuncId → Fun) : Option (V × List Ob) :=
 Option.bind (call 15 [(V.lst 5 false [(V.int .u8 67), (V.int .u8 111), (V.int .u8 110), (V.int .u8 116), (V.int .u8 101), (V.int .u8 110), (V.int .u8 116), (V.int .u8 45), (V.int .u8 84), (V.int .u8 121), (V.int .u8 112), (V.int .u8 101), (V.int .u8 58), (V.int .u8 32), (V.int .u8 109), (V.int .u8 117), (V.int .u8 108), (V.int .u8 116), (V.int .u8 105), (V.int .u8 112), (V.int .u8 97), (V.int .u8 114), (V.int .u8 116), (V.int .u8 47), (V.int .u8 109), (V.int .u8 105), (V.int .u8 120), (V.int .u8 101), (V.int .u8 100), (V.int .u8 59), (V.int .u8 32), (V.int .u8 98), (V.int .u8 111), (V.int .u8 117), (V.int .u8 110), (V.int .u8 100), (V.int .u8 97), (V.int .u8 114), (V.int .u8 121), (V.int .u8 61), (V.int .u8 98), (V.int .u8 13), (V.int .u8 10), (V.int .u8 13), (V.int .u8 10), (V.int .u8 112), (V.int .u8 114), (V.int .u8 101), (V.int .u8 13), (V.int .u8 10), (V.int .u8 45), (V.int .u8 45), (V.int .u8 98), (V.int .u8 13), (V.int .u8 10), (V.int .u8 13), (V.int .u8 10), (V.int .u8 111), (V.int .u8 110), (V.int .u8 101), (V.int .u8 13), (V.int .u8 10), (V.int .u8 45), (V.int .u8 45), (V.int .u8 98), (V.int .u8 13), (V.int .u8 10), (V.int .u8 67), (V.int .u8 111), (V.int .u8 110), (V.int .u8 116), (V.int .u8 101), (V.int .u8 110), (V.int .u8 116), (V.int .u8 45), (V.int .u8 84), (V.int .u8 121), (V.int .u8 112), (V.int .u8 101), (V.int .u8 58), (V.int .u8 32), (V.int .u8 109), (V.int .u8 101), (V.int .u8 115), (V.int .u8 115), (V.int .u8 97), (V.int .u8 103), (V.int .u8 101), (V.int .u8 47), (V.int .u8 114), (V.int .u8 102), (V.int .u8 99), (V.int .u8 56), (V.int .u8 50), (V.int .u8 50), (V.int .u8 13), (V.int .u8 10), (V.int .u8 13), (V.int .u8 10), (V.int .u8 83), (V.int .u8 117), (V.int .u8 98), (V.int .u8 106), (V.int .u8 101), (V.int .u8 99), (V.int .u8 116), (V.int .u8 58), (V.int .u8 32), (V.int .u8 115), (V.int .u8 13), (V.int .u8 10), (V.int .u8 13), (V.int .u8 10), (V.int .u8 116), (V.int .u8 119), (V.int .u8 111), (V.int .u8 13), (V.int .u8 10), (V.int .u8 45), (V.int .u8 45), (V.int .u8 98), (V.int .u8 45), (V.int .u8 45), (V.int .u8 13), (V.int .u8 10), (V.int .u8 112), (V.int .u8 111), (V.int .u8 115), (V.int .u8 116)])] []) fun z0 =>
 Option.bind (call 28 [(V.lst 5 false [(V.int .u8 67), (V.int .u8 111), (V.int .u8 110), (V.int .u8 116), (V.int .u8 101), (V.int .u8 110), (V.int .u8 116), (V.int .u8 45), (V.int .u8 84), (V.int .u8 121), (V.int .u8 112), (V.int .u8 101), (V.int .u8 58), (V.int .u8 32), (V.int .u8 109), (V.int .u8 117), (V.int .u8 108), (V.int .u8 116), (V.int .u8 105), (V.int .u8 112), (V.int .u8 97), (V.int .u8 114), (V.int .u8 116), (V.int .u8 47), (V.int .u8 109), (V.int .u8 105), (V.int .u8 120), (V.int .u8 101), (V.int .u8 100), (V.int .u8 59), (V.int .u8 32), (V.int .u8 98), (V.int .u8 111), (V.int .u8 117), (V.int .u8 110), (V.int .u8 100), (V.int .u8 97), (V.int .u8 114), (V.int .u8 121), (V.int .u8 61), (V.int .u8 98), (V.int .u8 13), (V.int .u8 10), (V.int .u8 13), (V.int .u8 10), (V.int .u8 112), (V.int .u8 114), (V.int .u8 101), (V.int .u8 13), (V.int .u8 10), (V.int .u8 45), (V.int .u8 45), (V.int .u8 98), (V.int .u8 13), (V.int .u8 10), (V.int .u8 13), (V.int .u8 10), (V.int .u8 111), (V.int .u8 110), (V.int .u8 101), (V.int .u8 13), (V.int .u8 10), (V.int .u8 45), (V.int .u8 45), (V.int .u8 98), (V.int .u8 13), (V.int .u8 10), (V.int .u8 67), (V.int .u8 111), (V.int .u8 110), (V.int .u8 116), (V.int .u8 101), (V.int .u8 110), (V.int .u8 116), (V.int .u8 45), (V.int .u8 84), (V.int .u8 121), (V.int .u8 112), (V.int .u8 101), (V.int .u8 58), (V.int .u8 32), (V.int .u8 109), (V.int .u8 101), (V.int .u8 115), (V.int .u8 115), (V.int .u8 97), (V.int .u8 103), (V.int .u8 101), (V.int .u8 47), (V.int .u8 114), (V.int .u8 102), (V.int .u8 99), (V.int .u8 56), (V.int .u8 50), (V.int .u8 50), (V.int .u8 13), (V.int .u8 10), (V.int .u8 13), (V.int .u8 10), (V.int .u8 83), (V.int .u8 117), (V.int .u8 98), (V.int .u8 106), (V.int .u8 101), (V.int .u8 99), (V.int .u8 116), (V.int .u8 58), (V.int .u8 32), (V.int .u8 115), (V.int .u8 13), (V.int .u8 10), (V.int .u8 13), (V.int .u8 10), (V.int .u8 116), (V.int .u8 119), (V.int .u8 111), (V.int .u8 13), (V.int .u8 10), (V.int .u8 45), (V.int .u8 45), (V.int .u8 98), (V.int .u8 45), (V.int .u8 45), (V.int .u8 13), (V.int .u8 10), (V.int .u8 112), (V.int .u8 111), (V.int .u8 115), (V.int .u8 116)]), (V.agg [(V.int .i64 (getI (headD (V.cells (headD (getT z0.1) V.bot)) V.bot))), (V.int .i64 (getI (headD (tail (V.cells (headD (getT z0.1) V.bot))) V.bot))), (V.int .i64 (getI (headD (tail (tail (V.cells (headD (getT z0.1) V.bot)))) V.bot))), (V.int .i64 (getI (headD (tail (tail (tail (V.cells (headD (getT z0.1) V.bot))))) V.bot))), (V.int .i64 (getI (headD (tail (tail (tail (tail (V.cells (headD (getT z0.1) V.bot)))))) V.bot))), (V.lst 28 false (getL (headD (tail (tail (tail (tail (tail (V.cells (headD (getT z0.1) V.bot))))))) V.bot))), (V.lst 24 false (getL (headD (tail (tail (tail (tail (tail (tail (V.cells (headD (getT z0.1) V.bot)))))))) V.bot))), (V.int .i64 (getI (headD (tail (tail (tail (tail (tail (tail (tail (V.cells (headD (getT z0.1) V.bot))))))))) V.bot))), (V.int .i64 (getI (headD (tail (tail (tail (tail (tail (tail (tail (tail (V.cells (headD (getT z0.1) V.bot)))))))))) V.bot)))]), (V.agg [(V.lst 3 false [(V.int .i64 1)]), (V.int .i64 0), (V.lst 9 false []), (V.bool false), (V.int .i64 0), (V.int .i64 0)])] []) fun z1 =>
 Option.bind (call 28 [(V.lst 5 false [(V.int .u8 67), (V.int .u8 111), (V.int .u8 110), (V.int .u8 116), (V.int .u8 101), (V.int .u8 110), (V.int .u8 116), (V.int .u8 45), (V.int .u8 84), (V.int .u8 121), (V.int .u8 112), (V.int .u8 101), (V.int .u8 58), (V.int .u8 32), (V.int .u8 109), (V.int .u8 117), (V.int .u8 108), (V.int .u8 116), (V.int .u8 105), (V.int .u8 112), (V.int .u8 97), (V.int .u8 114), (V.int .u8 116), (V.int .u8 47), (V.int .u8 109), (V.int .u8 105), (V.int .u8 120), (V.int .u8 101), (V.int .u8 100), (V.int .u8 59), (V.int .u8 32), (V.int .u8 98), (V.int .u8 111), (V.int .u8 117), (V.int .u8 110), (V.int .u8 100), (V.int .u8 97), (V.int .u8 114), (V.int .u8 121), (V.int .u8 61), (V.int .u8 98), (V.int .u8 13), (V.int .u8 10), (V.int .u8 13), (V.int .u8 10), (V.int .u8 112), (V.int .u8 114), (V.int .u8 101), (V.int .u8 13), (V.int .u8 10), (V.int .u8 45), (V.int .u8 45), (V.int .u8 98), (V.int .u8 13), (V.int .u8 10), (V.int .u8 13), (V.int .u8 10), (V.int .u8 111), (V.int .u8 110), (V.int .u8 101), (V.int .u8 13), (V.int .u8 10), (V.int .u8 45), (V.int .u8 45), (V.int .u8 98), (V.int .u8 13), (V.int .u8 10), (V.int .u8 67), (V.int .u8 111), (V.int .u8 110), (V.int .u8 116), (V.int .u8 101), (V.int .u8 110), (V.int .u8 116), (V.int .u8 45), (V.int .u8 84), (V.int .u8 121), (V.int .u8 112), (V.int .u8 101), (V.int .u8 58), (V.int .u8 32), (V.int .u8 109), (V.int .u8 101), (V.int .u8 115), (V.int .u8 115), (V.int .u8 97), (V.int .u8 103), (V.int .u8 101), (V.int .u8 47), (V.int .u8 114), (V.int .u8 102), (V.int .u8 99), (V.int .u8 56), (V.int .u8 50), (V.int .u8 50), (V.int .u8 13), (V.int .u8 10), (V.int .u8 13), (V.int .u8 10), (V.int .u8 83), (V.int .u8 117), (V.int .u8 98), (V.int .u8 106), (V.int .u8 101), (V.int .u8 99), (V.int .u8 116), (V.int .u8 58), (V.int .u8 32), (V.int .u8 115), (V.int .u8 13), (V.int .u8 10), (V.int .u8 13), (V.int .u8 10), (V.int .u8 116), (V.int .u8 119), (V.int .u8 111), (V.int .u8 13), (V.int .u8 10), (V.int .u8 45), (V.int .u8 45), (V.int .u8 98), (V.int .u8 45), (V.int .u8 45), (V.int .u8 13), (V.int .u8 10), (V.int .u8 112), (V.int .u8 111), (V.int .u8 115), (V.int .u8 116)]), (V.agg [(V.int .i64 (getI (headD (V.cells (headD (getT z0.1) V.bot)) V.bot))), (V.int .i64 (getI (headD (tail (V.cells (headD (getT z0.1) V.bot))) V.bot))), (V.int .i64 (getI (headD (tail (tail (V.cells (headD (getT z0.1) V.bot)))) V.bot))), (V.int .i64 (getI (headD (tail (tail (tail (V.cells (headD (getT z0.1) V.bot))))) V.bot))), (V.int .i64 (getI (headD (tail (tail (tail (tail (V.cells (headD (getT z0.1) V.bot)))))) V.bot))), (V.lst 28 false (getL (headD (tail (tail (tail (tail (tail (V.cells (headD (getT z0.1) V.bot))))))) V.bot))), (V.lst 24 false (getL (headD (tail (tail (tail (tail (tail (tail (V.cells (headD (getT z0.1) V.bot)))))))) V.bot))), (V.int .i64 (getI (headD (tail (tail (tail (tail (tail (tail (tail (V.cells (headD (getT z0.1) V.bot))))))))) V.bot))), (V.int .i64 (getI (headD (tail (tail (tail (tail (tail (tail (tail (tail (V.cells (headD (getT z0.1) V.bot)))))))))) V.bot)))]), (V.agg [(V.lst 3 false [(V.int .i64 2), (V.int .i64 1)]), (V.int .i64 0), (V.lst 9 false []), (V.bool false), (V.int .i64 0), (V.int .i64 0)])] []) fun z2 =>
 Option.bind (call 28 [(V.lst 5 false [(V.int .u8 67), (V.int .u8 111), (V.int .u8 110), (V.int .u8 116), (V.int .u8 101), (V.int .u8 110), (V.int .u8 116), (V.int .u8 45), (V.int .u8 84), (V.int .u8 121), (V.int .u8 112), (V.int .u8 101), (V.int .u8 58), (V.int .u8 32), (V.int .u8 109), (V.int .u8 117), (V.int .u8 108), (V.int .u8 116), (V.int .u8 105), (V.int .u8 112), (V.int .u8 97), (V.int .u8 114), (V.int .u8 116), (V.int .u8 47), (V.int .u8 109), (V.int .u8 105), (V.int .u8 120), (V.int .u8 101), (V.int .u8 100), (V.int .u8 59), (V.int .u8 32), (V.int .u8 98), (V.int .u8 111), (V.int .u8 117), (V.int .u8 110), (V.int .u8 100), (V.int .u8 97), (V.int .u8 114), (V.int .u8 121), (V.int .u8 61), (V.int .u8 98), (V.int .u8 13), (V.int .u8 10), (V.int .u8 13), (V.int .u8 10), (V.int .u8 112), (V.int .u8 114), (V.int .u8 101), (V.int .u8 13), (V.int .u8 10), (V.int .u8 45), (V.int .u8 45), (V.int .u8 98), (V.int .u8 13), (V.int .u8 10), (V.int .u8 13), (V.int .u8 10), (V.int .u8 111), (V.int .u8 110), (V.int .u8 101), (V.int .u8 13), (V.int .u8 10), (V.int .u8 45), (V.int .u8 45), (V.int .u8 98), (V.int .u8 13), (V.int .u8 10), (V.int .u8 67), (V.int .u8 111), (V.int .u8 110), (V.int .u8 116), (V.int .u8 101), (V.int .u8 110), (V.int .u8 116), (V.int .u8 45), (V.int .u8 84), (V.int .u8 121), (V.int .u8 112), (V.int .u8 101), (V.int .u8 58), (V.int .u8 32), (V.int .u8 109), (V.int .u8 101), (V.int .u8 115), (V.int .u8 115), (V.int .u8 97), (V.int .u8 103), (V.int .u8 101), (V.int .u8 47), (V.int .u8 114), (V.int .u8 102), (V.int .u8 99), (V.int .u8 56), (V.int .u8 50), (V.int .u8 50), (V.int .u8 13), (V.int .u8 10), (V.int .u8 13), (V.int .u8 10), (V.int .u8 83), (V.int .u8 117), (V.int .u8 98), (V.int .u8 106), (V.int .u8 101), (V.int .u8 99), (V.int .u8 116), (V.int .u8 58), (V.int .u8 32), (V.int .u8 115), (V.int .u8 13), (V.int .u8 10), (V.int .u8 13), (V.int .u8 10), (V.int .u8 116), (V.int .u8 119), (V.int .u8 111), (V.int .u8 13), (V.int .u8 10), (V.int .u8 45), (V.int .u8 45), (V.int .u8 98), (V.int .u8 45), (V.int .u8 45), (V.int .u8 13), (V.int .u8 10), (V.int .u8 112), (V.int .u8 111), (V.int .u8 115), (V.int .u8 116)]), (V.agg [(V.int .i64 (getI (headD (V.cells (headD (getT z0.1) V.bot)) V.bot))), (V.int .i64 (getI (headD (tail (V.cells (headD (getT z0.1) V.bot))) V.bot))), (V.int .i64 (getI (headD (tail (tail (V.cells (headD (getT z0.1) V.bot)))) V.bot))), (V.int .i64 (getI (headD (tail (tail (tail (V.cells (headD (getT z0.1) V.bot))))) V.bot))), (V.int .i64 (getI (headD (tail (tail (tail (tail (V.cells (headD (getT z0.1) V.bot)))))) V.bot))), (V.lst 28 false (getL (headD (tail (tail (tail (tail (tail (V.cells (headD (getT z0.1) V.bot))))))) V.bot))), (V.lst 24 false (getL (headD (tail (tail (tail (tail (tail (tail (V.cells (headD (getT z0.1) V.bot)))))))) V.bot))), (V.int .i64 (getI (headD (tail (tail (tail (tail (tail (tail (tail (V.cells (headD (getT z0.1) V.bot))))))))) V.bot))), (V.int .i64 (getI (headD (tail (tail (tail (tail (tail (tail (tail (tail (V.cells (headD (getT z0.1) V.bot)))))))))) V.bot)))]), (V.agg [(V.lst 3 false [(V.int .i64 2)]), (V.int .i64 2), (V.lst 9 false [(V.str [115, 117, 98, 106, 101, 99, 116])]), (V.bool false), (V.int .i64 0), (V.int .i64 0)])] []) fun z3 =>
 Option.bind (call 28 [(V.lst 5 false [(V.int .u8 67), (V.int .u8 111), (V.int .u8 110), (V.int .u8 116), (V.int .u8 101), (V.int .u8 110), (V.int .u8 116), (V.int .u8 45), (V.int .u8 84), (V.int .u8 121), (V.int .u8 112), (V.int .u8 101), (V.int .u8 58), (V.int .u8 32), (V.int .u8 109), (V.int .u8 117), (V.int .u8 108), (V.int .u8 116), (V.int .u8 105), (V.int .u8 112), (V.int .u8 97), (V.int .u8 114), (V.int .u8 116), (V.int .u8 47), (V.int .u8 109), (V.int .u8 105), (V.int .u8 120), (V.int .u8 101), (V.int .u8 100), (V.int .u8 59), (V.int .u8 32), (V.int .u8 98), (V.int .u8 111), (V.int .u8 117), (V.int .u8 110), (V.int .u8 100), (V.int .u8 97), (V.int .u8 114), (V.int .u8 121), (V.int .u8 61), (V.int .u8 98), (V.int .u8 13), (V.int .u8 10), (V.int .u8 13), (V.int .u8 10), (V.int .u8 112), (V.int .u8 114), (V.int .u8 101), (V.int .u8 13), (V.int .u8 10), (V.int .u8 45), (V.int .u8 45), (V.int .u8 98), (V.int .u8 13), (V.int .u8 10), (V.int .u8 13), (V.int .u8 10), (V.int .u8 111), (V.int .u8 110), (V.int .u8 101), (V.int .u8 13), (V.int .u8 10), (V.int .u8 45), (V.int .u8 45), (V.int .u8 98), (V.int .u8 13), (V.int .u8 10), (V.int .u8 67), (V.int .u8 111), (V.int .u8 110), (V.int .u8 116), (V.int .u8 101), (V.int .u8 110), (V.int .u8 116), (V.int .u8 45), (V.int .u8 84), (V.int .u8 121), (V.int .u8 112), (V.int .u8 101), (V.int .u8 58), (V.int .u8 32), (V.int .u8 109), (V.int .u8 101), (V.int .u8 115), (V.int .u8 115), (V.int .u8 97), (V.int .u8 103), (V.int .u8 101), (V.int .u8 47), (V.int .u8 114), (V.int .u8 102), (V.int .u8 99), (V.int .u8 56), (V.int .u8 50), (V.int .u8 50), (V.int .u8 13), (V.int .u8 10), (V.int .u8 13), (V.int .u8 10), (V.int .u8 83), (V.int .u8 117), (V.int .u8 98), (V.int .u8 106), (V.int .u8 101), (V.int .u8 99), (V.int .u8 116), (V.int .u8 58), (V.int .u8 32), (V.int .u8 115), (V.int .u8 13), (V.int .u8 10), (V.int .u8 13), (V.int .u8 10), (V.int .u8 116), (V.int .u8 119), (V.int .u8 111), (V.int .u8 13), (V.int .u8 10), (V.int .u8 45), (V.int .u8 45), (V.int .u8 98), (V.int .u8 45), (V.int .u8 45), (V.int .u8 13), (V.int .u8 10), (V.int .u8 112), (V.int .u8 111), (V.int .u8 115), (V.int .u8 116)]), (V.agg [(V.int .i64 (getI (headD (V.cells (headD (getT z0.1) V.bot)) V.bot))), (V.int .i64 (getI (headD (tail (V.cells (headD (getT z0.1) V.bot))) V.bot))), (V.int .i64 (getI (headD (tail (tail (V.cells (headD (getT z0.1) V.bot)))) V.bot))), (V.int .i64 (getI (headD (tail (tail (tail (V.cells (headD (getT z0.1) V.bot))))) V.bot))), (V.int .i64 (getI (headD (tail (tail (tail (tail (V.cells (headD (getT z0.1) V.bot)))))) V.bot))), (V.lst 28 false (getL (headD (tail (tail (tail (tail (tail (V.cells (headD (getT z0.1) V.bot))))))) V.bot))), (V.lst 24 false (getL (headD (tail (tail (tail (tail (tail (tail (V.cells (headD (getT z0.1) V.bot)))))))) V.bot))), (V.int .i64 (getI (headD (tail (tail (tail (tail (tail (tail (tail (V.cells (headD (getT z0.1) V.bot))))))))) V.bot))), (V.int .i64 (getI (headD (tail (tail (tail (tail (tail (tail (tail (tail (V.cells (headD (getT z0.1) V.bot)))))))))) V.bot)))]), (V.agg [(V.lst 3 false [(V.int .i64 1)]), (V.int .i64 0), (V.lst 9 false []), (V.bool true), (V.int .i64 1), (V.int .i64 9)])] []) fun z4 =>
 Option.bind (call 36 [(V.agg [(V.int .i64 (getI (headD (V.cells (headD (getT z0.1) V.bot)) V.bot))), (V.int .i64 (getI (headD (tail (V.cells (headD (getT z0.1) V.bot))) V.bot))), (V.int .i64 (getI (headD (tail (tail (V.cells (headD (getT z0.1) V.bot)))) V.bot))), (V.int .i64 (getI (headD (tail (tail (tail (V.cells (headD (getT z0.1) V.bot))))) V.bot))), (V.int .i64 (getI (headD (tail (tail (tail (tail (V.cells (headD (getT z0.1) V.bot)))))) V.bot))), (V.lst 28 false (getL (headD (tail (tail (tail (tail (tail (V.cells (headD (getT z0.1) V.bot))))))) V.bot))), (V.lst 24 false (getL (headD (tail (tail (tail (tail (tail (tail (V.cells (headD (getT z0.1) V.bot)))))))) V.bot))), (V.int .i64 (getI (headD (tail (tail (tail (tail (tail (tail (tail (V.cells (headD (getT z0.1) V.bot))))))))) V.bot))), (V.int .i64 (getI (headD (tail (tail (tail (tail (tail (tail (tail (tail (V.cells (headD (getT z0.1) V.bot)))))))))) V.bot)))]), (V.lst 3 false [(V.int .i64 3)])] []) fun z5 =>
 if ((getI (headD (tail (getT z0.1)) V.bot)) == (0 : Int)) = true then
 if (sEq (bytesOf (getL z1.1)) [111, 110, 101]) = true then
 if (sEq (bytesOf (getL z2.1)) [116, 119, 111]) = true then
 if (sEq (bytesOf (getL z3.1)) [83, 117, 98, 106, 101, 99, 116, 58, 32, 115, 13, 10, 13, 10]) = true then
 if (sEq (bytesOf (getL z4.1)) [110, 101]) = true then
 some ((V.bool (!(getB (headD (tail (getT z5.1)) V.bot)))), [])
 else
 some ((V.bool false), [])
 else
 some ((V.bool false), [])
 else
 some ((V.bool false), [])
 else
 some ((V.bool false), [])
 else
 some ((V.bool false), [])
def A27 : List V := []
theorem E27 : GO 27 Tryd.f27 A27 [] call icall again = T27 call := by kernel_rfl
theorem C27 (k : Nat) : callN cfg (k + 1) 27 A27 [] = T27 (callN cfg k) :=
 (show callN cfg (k + 1) 27 A27 [] = GO 27 Tryd.f27 A27 [] (callN cfg k) (icallN cfg (callN cfg k) 20) (RN 27 Tryd.f27 [] (callN cfg k) (icallN cfg (callN cfg k) 20) k) by kernel_rfl).trans (E27 _ _ _)
theorem M27 {r : V × List Ob} (h : Evt (fun k n => T27 (callN cfg k)) r) : Ret 27 [] [] r := ret_mk (g := fun k n => T27 (callN cfg k)) (fun k => C27 k) h
end Go.Proofs.YtemgbdncidgoiaaDoor
end
section
namespace Go.Proofs.YtemgbdncidgoiaaDoor
open Go.Ev Go
theorem subF_cat (b : Bs) {x y z : Nat} (h1 : x ≤ y) (h2 : y ≤ z) (h3 : z ≤ b.length) : subF b x y ++ subF b y z = subF b x z := by
  unfold subF
  apply List.ext_getElem?
  intro i
  rw [List.getElem?_append]
  simp only [List.length_drop, List.length_take, List.getElem?_drop, List.getElem?_take]
  by_cases hi : i < min y b.length - x
  · rw [if_pos hi, if_pos (by omega), if_pos (by omega)]
  · rw [if_neg hi]
    by_cases hz : x + i < z
    · rw [if_pos (by omega), if_pos hz]
      congr 1; omega
    · rw [if_neg (by omega), if_neg hz]
theorem subF_all (b : Bs) : subF b 0 b.length = b := by unfold subF; rw [List.take_length, List.drop_zero]
theorem aw1 : getsF awB awT ⟨[1], 0, [], false, 0, 0⟩ = [111, 110, 101] := by kernel_rfl
theorem aw2 : getsF awB awT ⟨[2, 1], 0, [], false, 0, 0⟩ = [116, 119, 111] := by kernel_rfl
theorem aw3 : getsF awB awT ⟨[2], 2, [subjN], false, 0, 0⟩ = [83, 117, 98, 106, 101, 99, 116, 58, 32, 115, 13, 10, 13, 10] := by kernel_rfl
theorem aw4 : getsF awB awT ⟨[1], 0, [], true, 1, 9⟩ = [110, 101] := by kernel_rfl
theorem aw5 : findP awT [3] = none := by kernel_rfl
theorem ret27 : Ret 27 [] [] (.bool true, []) := by
  have hl : awB.length ≤ 3000 := by simp [awB]
  have hc : cntF awT ≤ 1000000 := by rw [awCnt]; omega
  have g1 := ret28 awB hl awT hc ⟨[1], 0, [], false, 0, 0⟩ ⟨by simp, by simp, by simp⟩
  have g2 := ret28 awB hl awT hc ⟨[2, 1], 0, [], false, 0, 0⟩ ⟨by simp, by simp, by simp⟩
  have g3 := ret28 awB hl awT hc ⟨[2], 2, [subjN], false, 0, 0⟩ ⟨by simp, by simp [subjN], by simp⟩
  have g4 := ret28 awB hl awT hc ⟨[1], 0, [], true, 1, 9⟩ ⟨by simp, by simp, by simp⟩
  have g5 := ret36 awT hc [3] (by simp)
  rw [aw1] at g1
  rw [aw2] at g2
  rw [aw3] at g3
  rw [aw4] at g4
  rw [aw5, told_none] at g5
  refine M27 ?_
  refine evt_eq (g' := fun k _ => Option.bind (callN cfg k 15 [.lst 5 false (ofBytes awB)] []) fun z0 => _) (fun k n => by rw [T27]; rfl) ?_
  refine evt_bind awParse ?_
  simp only [getT_tup, List.headD_cons, List.tail_cons, getI_int, eta_part]
  refine evt_bind g1 ?_
  refine evt_bind g2 ?_
  refine evt_bind g3 ?_
  refine evt_bind g4 ?_
  refine evt_bind g5 ?_
  simp only [getL_lst, bytesOf_ofBytes, getT_tup, List.headD_cons, List.tail_cons, getB_bool, beq_self_eq_true, if_true, sEq, Bool.not_false]
  exact evt_some _
theorem sEq_refl (x : Bs) : sEq x x = true := by simp [sEq]
end Go.Proofs.YtemgbdncidgoiaaDoor
end
section
namespace Go.Proofs.YtemgbdncidgoiaaDoor
open Go.Ev Go
open List (headD tail getD length drop take)
open V (getI getL getT getS getB)
set_option maxRecDepth 100000
variable (call : FuncId → Fun) (icall : ICall (V × List Ob)) (again : List It → St → Option (V × List Ob))
end Go.Proofs.YtemgbdncidgoiaaDoor
end
section
namespace Go.Proofs.YtemgbdncidgoiaaDoor
open Go.Ev Go
def pieceF (b : Bs) (f : Fd) : Bs := if f.2.1 ≤ f.2.2.2 ∧ f.2.2.2 ≤ b.length then subF b f.2.1 f.2.2.2 ++ (if f.2.2.2 = f.2.1 ∨ b.getD (f.2.2.2 - 1) 0 ≠ 10 then [13, 10] else []) else []
theorem stepS_piece (b : Bs) (names : List Bs) (but : Bool) (out : Bs) (f : Fd) : stepS b names but out f = if hasN names f.1 = but then out else out ++ pieceF b f := by
  unfold stepS pieceF
  split
  · rfl
  · split
    · rw [List.append_assoc]
    · rw [List.append_nil]
def sumS (b : Bs) (names : List Bs) (but : Bool) : List Fd → Nat
  | [] => 0
  | f :: r => (if hasN names f.1 = but then 0 else (pieceF b f).length) + sumS b names but r
theorem foldS_len (b : Bs) (names : List Bs) (but : Bool) : ∀ (l : List Fd) (out : Bs), (l.foldl (stepS b names but) out).length = out.length + sumS b names but l
  | [], out => rfl
  | f :: r, out => by
    rw [List.foldl_cons, foldS_len b names but r, stepS_piece, sumS]
    split
    · omega
    · rw [List.length_append]; omega
theorem someF_len (b : Bs) (l : List Fd) (names : List Bs) (but : Bool) : (someF b l names but).length = sumS b names but l + 2 := by
  unfold someF
  rw [List.length_append, foldS_len]
  simp only [List.length_nil, List.length_cons]; omega
end Go.Proofs.YtemgbdncidgoiaaDoor
end
section
namespace Go.Proofs.YtemgbdncidgoiaaDoor
open Go.Ev Go
open List (headD tail getD length drop take)
open V (getI getL getT getS getB)
set_option maxRecDepth 100000
variable (call : FuncId → Fun) (icall : ICall (V × List Ob)) (again : List It → St → Option (V × List Ob))
def T29_0 (call : FuncId → Fun) (ag0 : Int → Int → List V → Int → List V → Bool → Int → Int → Option (V × List Ob)) (i0 : Int) (i1 : Int) (l2 : List V) (i3 : Int) (l4 : List V) (b5 : Bool) (i6 : Int) (i7 : Int) : Option (V × List Ob) :=
 if (decide (i1 < ((length l4 : Nat) : Int))) = true then
 chk (decide (0 ≤ i1)) (chk (decide (i1 < ((length l4 : Nat) : Int))) ((ag0 ((IntKind.wrap .i64 (i0 + ((length (getS (getD l4 (Int.toNat i1) V.bot)) : Nat) : Int)))) ((IntKind.wrap .i64 (i1 + (1 : Int)))) (l2) (i3) (l4) (b5) (i6) (i7))))
 else
 Option.bind (if (decide (((length l2 : Nat) : Int) ≤ (70 : Int))) = true then
 if (decide (((length l4 : Nat) : Int) ≤ (110 : Int))) = true then
 some (decide (i0 ≤ (400 : Int)))
 else
 some false
 else
 some false) fun y0 =>
 some ((V.bool y0), [])
def T29 (call : FuncId → Fun) (ag0 : Int → Int → List V → Int → List V → Bool → Int → Int → Option (V × List Ob)) (a0 : List V) (a1 : Int) (a2 : List V) (a3 : Bool) (a4 : Int) (a5 : Int) : Option (V × List Ob) :=
 (ag0 ((0 : Int)) ((0 : Int)) (a0) (a1) (a2) (a3) (a4) (a5))
def A29 (a0 : List V) (a1 : Int) (a2 : List V) (a3 : Bool) (a4 : Int) (a5 : Int) : List V := [V.agg [V.lst 3 false a0, V.int IntKind.i64 a1, V.lst 9 false a2, V.bool a3, V.int IntKind.i64 a4, V.int IntKind.i64 a5]]
def K29_0 (i0 : Int) (i1 : Int) (l2 : List V) (i3 : Int) (l4 : List V) (b5 : Bool) (i6 : Int) (i7 : Int) : St := ⟨[V.bot, (V.ref 0 0), V.bot, (V.int IntKind.i64 i0), (V.int IntKind.i64 i1)] ++ List.replicate 29 V.bot, [(Ob.cells [(V.lst 3 false l2), (V.int IntKind.i64 i3), (V.lst 9 false l4), (V.bool b5), (V.int IntKind.i64 i6), (V.int IntKind.i64 i7)])]⟩
theorem S29_0 (i0 : Int) (i1 : Int) (l2 : List V) (i3 : Int) (l4 : List V) (b5 : Bool) (i6 : Int) (i7 : Int) :
 RM 29 Tryd.f29 [] call icall again (tdOf Tryd.f29 0) (K29_0 i0 i1 l2 i3 l4 b5 i6 i7) = T29_0 call (fun i0 i1 l2 i3 l4 b5 i6 i7 => again (tdOf Tryd.f29 0) (K29_0 i0 i1 l2 i3 l4 b5 i6 i7)) i0 i1 l2 i3 l4 b5 i6 i7 := by kernel_rfl
theorem E29 (a0 : List V) (a1 : Int) (a2 : List V) (a3 : Bool) (a4 : Int) (a5 : Int) : GO 29 Tryd.f29 (A29 a0 a1 a2 a3 a4 a5) [] call icall again = T29 call (fun i0 i1 l2 i3 l4 b5 i6 i7 => again (tdOf Tryd.f29 0) (K29_0 i0 i1 l2 i3 l4 b5 i6 i7)) a0 a1 a2 a3 a4 a5 := by kernel_rfl
def L29 (call : FuncId → Fun) : Nat → (Int → Int → List V → Int → List V → Bool → Int → Int → Option (V × List Ob))
 | 0 => fun _ _ _ _ _ _ _ _ => none
 | n + 1 => T29_0 call (L29 call n)
theorem R29 (call : FuncId → Fun) (icall : ICall (V × List Ob)) : ∀ n, (∀ (i0 : Int) (i1 : Int) (l2 : List V) (i3 : Int) (l4 : List V) (b5 : Bool) (i6 : Int) (i7 : Int), RN 29 Tryd.f29 [] call icall n (tdOf Tryd.f29 0) (K29_0 i0 i1 l2 i3 l4 b5 i6 i7) = (L29 call n) i0 i1 l2 i3 l4 b5 i6 i7)
  | 0 => fun i0 i1 l2 i3 l4 b5 i6 i7 => rfl
  | n + 1 => by
    have ih := R29 call icall n
    exact fun i0 i1 l2 i3 l4 b5 i6 i7 => (S29_0 call icall (RN 29 Tryd.f29 [] call icall n) i0 i1 l2 i3 l4 b5 i6 i7).trans (by rw [show (fun i0 i1 l2 i3 l4 b5 i6 i7 => RN 29 Tryd.f29 [] call icall n (tdOf Tryd.f29 0) (K29_0 i0 i1 l2 i3 l4 b5 i6 i7)) = (L29 call n) from (funext fun i0 => funext fun i1 => funext fun l2 => funext fun i3 => funext fun l4 => funext fun b5 => funext fun i6 => funext fun i7 => ih i0 i1 l2 i3 l4 b5 i6 i7)]; rfl)
theorem C29 (k : Nat) (a0 : List V) (a1 : Int) (a2 : List V) (a3 : Bool) (a4 : Int) (a5 : Int) : callN cfg (k + 1) 29 (A29 a0 a1 a2 a3 a4 a5) [] = T29 (callN cfg k) (L29 (callN cfg k) k) a0 a1 a2 a3 a4 a5 := by
 have ih := R29 (callN cfg k) (icallN cfg (callN cfg k) 20) k
 refine (show callN cfg (k + 1) 29 (A29 a0 a1 a2 a3 a4 a5) [] = GO 29 Tryd.f29 (A29 a0 a1 a2 a3 a4 a5) [] (callN cfg k) (icallN cfg (callN cfg k) 20) (RN 29 Tryd.f29 [] (callN cfg k) (icallN cfg (callN cfg k) 20) k) by kernel_rfl).trans ((E29 _ _ _ a0 a1 a2 a3 a4 a5).trans ?_)
 rw [show (fun i0 i1 l2 i3 l4 b5 i6 i7 => RN 29 Tryd.f29 [] (callN cfg k) (icallN cfg (callN cfg k) 20) k (tdOf Tryd.f29 0) (K29_0 i0 i1 l2 i3 l4 b5 i6 i7)) = (L29 (callN cfg k) k) from (funext fun i0 => funext fun i1 => funext fun l2 => funext fun i3 => funext fun l4 => funext fun b5 => funext fun i6 => funext fun i7 => ih i0 i1 l2 i3 l4 b5 i6 i7)]
theorem M29 (a0 : List V) (a1 : Int) (a2 : List V) (a3 : Bool) (a4 : Int) (a5 : Int) {r : V × List Ob} (h : Evt (fun k n => T29 (callN cfg k) (L29 (callN cfg k) n) a0 a1 a2 a3 a4 a5) r) : Ret 29 [V.agg [V.lst 3 false a0, V.int IntKind.i64 a1, V.lst 9 false a2, V.bool a3, V.int IntKind.i64 a4, V.int IntKind.i64 a5]] [] r := ret_mk (g := fun k n => T29 (callN cfg k) (L29 (callN cfg k) n) a0 a1 a2 a3 a4 a5) (fun k => C29 k a0 a1 a2 a3 a4 a5) h
theorem N29_0 (i0 : Int) (i1 : Int) (l2 : List V) (i3 : Int) (l4 : List V) (b5 : Bool) (i6 : Int) (i7 : Int) {r : V × List Ob} (h : Evt (fun k n => T29_0 (callN cfg k) (L29 (callN cfg k) n) i0 i1 l2 i3 l4 b5 i6 i7) r) : Evt (fun k n => (L29 (callN cfg k) n) i0 i1 l2 i3 l4 b5 i6 i7) r := evt_step (fun k n => rfl) h
def T13_0 (call : FuncId → Fun) (ag0 : List V → List V → Int → List UInt8 → List V → Int → List V → Bool → Int → Int → Int → Int → Int → Int → Int → List V → List V → Int → Int → Option (V × List Ob)) (l0 : List V) (l1 : List V) (i2 : Int) (s3 : List UInt8) (l4 : List V) (i5 : Int) (l6 : List V) (b7 : Bool) (i8 : Int) (i9 : Int) (i10 : Int) (i11 : Int) (i12 : Int) (i13 : Int) (i14 : Int) (l15 : List V) (l16 : List V) (i17 : Int) (i18 : Int) : Option (V × List Ob) :=
 Option.bind (if (decide (i8 ≤ i2)) = true then
 some (decide (i8 ≤ (4000 : Int)))
 else
 some false) fun y0 =>
 if y0 = true then
 Option.bind (call 28 [(V.lst 5 false l0), (V.agg [(V.int .i64 i10), (V.int .i64 i11), (V.int .i64 i12), (V.int .i64 i13), (V.int .i64 i14), (V.lst 28 false l15), (V.lst 24 false l16), (V.int .i64 i17), (V.int .i64 i18)]), (V.agg [(V.lst 3 false l4), (V.int .i64 i5), (V.lst 9 false l6), (V.bool b7), (V.int .i64 i8), (V.int .i64 i9)])] []) fun z1 =>
 chk (catOk s3 (bytesOf (getL z1.1))) ((ag0 (l0) (l1) (i2) ((s3 ++ (bytesOf (getL z1.1)))) (l4) (i5) (l6) (b7) ((IntKind.wrap .i64 (i8 + i9))) (i9) (i10) (i11) (i12) (i13) (i14) (l15) (l16) (i17) (i18)))
 else
 if (i2 == ((length l1 : Nat) : Int)) = true then
 if (sEq s3 (bytesOf l1)) = true then
 Option.bind (call 28 [(V.lst 5 false l0), (V.agg [(V.int .i64 i10), (V.int .i64 i11), (V.int .i64 i12), (V.int .i64 i13), (V.int .i64 i14), (V.lst 28 false l15), (V.lst 24 false l16), (V.int .i64 i17), (V.int .i64 i18)]), (V.agg [(V.lst 3 false l4), (V.int .i64 i5), (V.lst 9 false l6), (V.bool b7), (V.int .i64 i8), (V.int .i64 i9)])] []) fun z1 =>
 some ((V.bool (((length (getL z1.1) : Nat) : Int) == (0 : Int))), [])
 else
 some ((V.bool false), [])
 else
 some ((V.bool false), [])
def T13 (call : FuncId → Fun) (ag0 : List V → List V → Int → List UInt8 → List V → Int → List V → Bool → Int → Int → Int → Int → Int → Int → Int → List V → List V → Int → Int → Option (V × List Ob)) (a0 : List V) (a1 : List V) (a2 : Int) (a3 : List V) (a4 : Bool) (a5 : Int) (a6 : Int) (a7 : Int) : Option (V × List Ob) :=
 Option.bind (call 27 [] []) fun z0 =>
 if (!(getB z0.1)) = true then
 some ((V.bool false), [])
 else
 Option.bind (call 29 [(V.agg [(V.lst 3 false a1), (V.int .i64 a2), (V.lst 9 false a3), (V.bool a4), (V.int .i64 a5), (V.int .i64 a6)])] []) fun z1 =>
 Option.bind (if (!(getB z1.1)) = false then
 some (decide (((length a0 : Nat) : Int) > (1000 : Int)))
 else
 some true) fun y2 =>
 if y2 = true then
 some ((V.bool true), [])
 else
 Option.bind (call 15 [(V.lst 5 false a0)] []) fun z3 =>
 Option.bind (call 28 [(V.lst 5 false a0), (V.agg [(V.int .i64 (getI (headD (V.cells (headD (getT z3.1) V.bot)) V.bot))), (V.int .i64 (getI (headD (tail (V.cells (headD (getT z3.1) V.bot))) V.bot))), (V.int .i64 (getI (headD (tail (tail (V.cells (headD (getT z3.1) V.bot)))) V.bot))), (V.int .i64 (getI (headD (tail (tail (tail (V.cells (headD (getT z3.1) V.bot))))) V.bot))), (V.int .i64 (getI (headD (tail (tail (tail (tail (V.cells (headD (getT z3.1) V.bot)))))) V.bot))), (V.lst 28 false (getL (headD (tail (tail (tail (tail (tail (V.cells (headD (getT z3.1) V.bot))))))) V.bot))), (V.lst 24 false (getL (headD (tail (tail (tail (tail (tail (tail (V.cells (headD (getT z3.1) V.bot)))))))) V.bot))), (V.int .i64 (getI (headD (tail (tail (tail (tail (tail (tail (tail (V.cells (headD (getT z3.1) V.bot))))))))) V.bot))), (V.int .i64 (getI (headD (tail (tail (tail (tail (tail (tail (tail (tail (V.cells (headD (getT z3.1) V.bot)))))))))) V.bot)))]), (V.agg [(V.lst 3 false a1), (V.int .i64 a2), (V.lst 9 false a3), (V.bool false), (V.int .i64 0), (V.int .i64 0)])] []) fun z4 =>
 Option.bind (call 30 [(V.lst 5 false a0), (V.agg [(V.int .i64 (getI (headD (V.cells (headD (getT z3.1) V.bot)) V.bot))), (V.int .i64 (getI (headD (tail (V.cells (headD (getT z3.1) V.bot))) V.bot))), (V.int .i64 (getI (headD (tail (tail (V.cells (headD (getT z3.1) V.bot)))) V.bot))), (V.int .i64 (getI (headD (tail (tail (tail (V.cells (headD (getT z3.1) V.bot))))) V.bot))), (V.int .i64 (getI (headD (tail (tail (tail (tail (V.cells (headD (getT z3.1) V.bot)))))) V.bot))), (V.lst 28 false (getL (headD (tail (tail (tail (tail (tail (V.cells (headD (getT z3.1) V.bot))))))) V.bot))), (V.lst 24 false (getL (headD (tail (tail (tail (tail (tail (tail (V.cells (headD (getT z3.1) V.bot)))))))) V.bot))), (V.int .i64 (getI (headD (tail (tail (tail (tail (tail (tail (tail (V.cells (headD (getT z3.1) V.bot))))))))) V.bot))), (V.int .i64 (getI (headD (tail (tail (tail (tail (tail (tail (tail (tail (V.cells (headD (getT z3.1) V.bot)))))))))) V.bot)))]), (V.agg [(V.lst 3 false a1), (V.int .i64 a2), (V.lst 9 false a3), (V.bool false), (V.int .i64 0), (V.int .i64 0)])] []) fun z5 =>
 chk ((50 : Int) != 0) ((ag0 (a0) ((getL z4.1)) ((getI z5.1)) ([]) (a1) (a2) (a3) (true) ((0 : Int)) ((IntKind.wrap .i64 ((IntKind.wrap .i64 (Int.tmod a7 (50 : Int))) + (1 : Int)))) ((getI (headD (V.cells (headD (getT z3.1) V.bot)) V.bot))) ((getI (headD (tail (V.cells (headD (getT z3.1) V.bot))) V.bot))) ((getI (headD (tail (tail (V.cells (headD (getT z3.1) V.bot)))) V.bot))) ((getI (headD (tail (tail (tail (V.cells (headD (getT z3.1) V.bot))))) V.bot))) ((getI (headD (tail (tail (tail (tail (V.cells (headD (getT z3.1) V.bot)))))) V.bot))) ((getL (headD (tail (tail (tail (tail (tail (V.cells (headD (getT z3.1) V.bot))))))) V.bot))) ((getL (headD (tail (tail (tail (tail (tail (tail (V.cells (headD (getT z3.1) V.bot)))))))) V.bot))) ((getI (headD (tail (tail (tail (tail (tail (tail (tail (V.cells (headD (getT z3.1) V.bot))))))))) V.bot))) ((getI (headD (tail (tail (tail (tail (tail (tail (tail (tail (V.cells (headD (getT z3.1) V.bot)))))))))) V.bot)))))
def A13 (a0 : List V) (a1 : List V) (a2 : Int) (a3 : List V) (a4 : Bool) (a5 : Int) (a6 : Int) (a7 : Int) : List V := [V.lst 5 false a0, V.agg [V.lst 3 false a1, V.int IntKind.i64 a2, V.lst 9 false a3, V.bool a4, V.int IntKind.i64 a5, V.int IntKind.i64 a6], V.int IntKind.u16 a7]
def K13_0 (l0 : List V) (l1 : List V) (i2 : Int) (s3 : List UInt8) (l4 : List V) (i5 : Int) (l6 : List V) (b7 : Bool) (i8 : Int) (i9 : Int) (i10 : Int) (i11 : Int) (i12 : Int) (i13 : Int) (i14 : Int) (l15 : List V) (l16 : List V) (i17 : Int) (i18 : Int) : St := ⟨[(V.lst 5 false l0), V.bot, V.bot, V.bot, (V.ref 0 0), V.bot, V.bot, V.bot, V.bot, (V.ref 1 0), V.bot, (V.lst 5 false l1), (V.int IntKind.i64 i2), (V.str s3)] ++ List.replicate 74 V.bot, [(Ob.cells [(V.lst 3 false l4), (V.int IntKind.i64 i5), (V.lst 9 false l6), (V.bool b7), (V.int IntKind.i64 i8), (V.int IntKind.i64 i9)]), (Ob.cells [(V.int IntKind.i64 i10), (V.int IntKind.i64 i11), (V.int IntKind.i64 i12), (V.int IntKind.i64 i13), (V.int IntKind.i64 i14), (V.lst 28 false l15), (V.lst 24 false l16), (V.int IntKind.i64 i17), (V.int IntKind.i64 i18)])]⟩
theorem S13_0 (l0 : List V) (l1 : List V) (i2 : Int) (s3 : List UInt8) (l4 : List V) (i5 : Int) (l6 : List V) (b7 : Bool) (i8 : Int) (i9 : Int) (i10 : Int) (i11 : Int) (i12 : Int) (i13 : Int) (i14 : Int) (l15 : List V) (l16 : List V) (i17 : Int) (i18 : Int) :
 RM 13 Tryd.f13 [] call icall again (tdOf Tryd.f13 0) (K13_0 l0 l1 i2 s3 l4 i5 l6 b7 i8 i9 i10 i11 i12 i13 i14 l15 l16 i17 i18) = T13_0 call (fun l0 l1 i2 s3 l4 i5 l6 b7 i8 i9 i10 i11 i12 i13 i14 l15 l16 i17 i18 => again (tdOf Tryd.f13 0) (K13_0 l0 l1 i2 s3 l4 i5 l6 b7 i8 i9 i10 i11 i12 i13 i14 l15 l16 i17 i18)) l0 l1 i2 s3 l4 i5 l6 b7 i8 i9 i10 i11 i12 i13 i14 l15 l16 i17 i18 := by kernel_rfl
theorem E13 (a0 : List V) (a1 : List V) (a2 : Int) (a3 : List V) (a4 : Bool) (a5 : Int) (a6 : Int) (a7 : Int) : GO 13 Tryd.f13 (A13 a0 a1 a2 a3 a4 a5 a6 a7) [] call icall again = T13 call (fun l0 l1 i2 s3 l4 i5 l6 b7 i8 i9 i10 i11 i12 i13 i14 l15 l16 i17 i18 => again (tdOf Tryd.f13 0) (K13_0 l0 l1 i2 s3 l4 i5 l6 b7 i8 i9 i10 i11 i12 i13 i14 l15 l16 i17 i18)) a0 a1 a2 a3 a4 a5 a6 a7 := by kernel_rfl
def L13 (call : FuncId → Fun) : Nat → (List V → List V → Int → List UInt8 → List V → Int → List V → Bool → Int → Int → Int → Int → Int → Int → Int → List V → List V → Int → Int → Option (V × List Ob))
 | 0 => fun _ _ _ _ _ _ _ _ _ _ _ _ _ _ _ _ _ _ _ => none
 | n + 1 => T13_0 call (L13 call n)
theorem R13 (call : FuncId → Fun) (icall : ICall (V × List Ob)) : ∀ n, (∀ (l0 : List V) (l1 : List V) (i2 : Int) (s3 : List UInt8) (l4 : List V) (i5 : Int) (l6 : List V) (b7 : Bool) (i8 : Int) (i9 : Int) (i10 : Int) (i11 : Int) (i12 : Int) (i13 : Int) (i14 : Int) (l15 : List V) (l16 : List V) (i17 : Int) (i18 : Int), RN 13 Tryd.f13 [] call icall n (tdOf Tryd.f13 0) (K13_0 l0 l1 i2 s3 l4 i5 l6 b7 i8 i9 i10 i11 i12 i13 i14 l15 l16 i17 i18) = (L13 call n) l0 l1 i2 s3 l4 i5 l6 b7 i8 i9 i10 i11 i12 i13 i14 l15 l16 i17 i18)
  | 0 => fun l0 l1 i2 s3 l4 i5 l6 b7 i8 i9 i10 i11 i12 i13 i14 l15 l16 i17 i18 => rfl
  | n + 1 => by
    have ih := R13 call icall n
    exact fun l0 l1 i2 s3 l4 i5 l6 b7 i8 i9 i10 i11 i12 i13 i14 l15 l16 i17 i18 => (S13_0 call icall (RN 13 Tryd.f13 [] call icall n) l0 l1 i2 s3 l4 i5 l6 b7 i8 i9 i10 i11 i12 i13 i14 l15 l16 i17 i18).trans (by rw [show (fun l0 l1 i2 s3 l4 i5 l6 b7 i8 i9 i10 i11 i12 i13 i14 l15 l16 i17 i18 => RN 13 Tryd.f13 [] call icall n (tdOf Tryd.f13 0) (K13_0 l0 l1 i2 s3 l4 i5 l6 b7 i8 i9 i10 i11 i12 i13 i14 l15 l16 i17 i18)) = (L13 call n) from (funext fun l0 => funext fun l1 => funext fun i2 => funext fun s3 => funext fun l4 => funext fun i5 => funext fun l6 => funext fun b7 => funext fun i8 => funext fun i9 => funext fun i10 => funext fun i11 => funext fun i12 => funext fun i13 => funext fun i14 => funext fun l15 => funext fun l16 => funext fun i17 => funext fun i18 => ih l0 l1 i2 s3 l4 i5 l6 b7 i8 i9 i10 i11 i12 i13 i14 l15 l16 i17 i18)]; rfl)
theorem C13 (k : Nat) (a0 : List V) (a1 : List V) (a2 : Int) (a3 : List V) (a4 : Bool) (a5 : Int) (a6 : Int) (a7 : Int) : callN cfg (k + 1) 13 (A13 a0 a1 a2 a3 a4 a5 a6 a7) [] = T13 (callN cfg k) (L13 (callN cfg k) k) a0 a1 a2 a3 a4 a5 a6 a7 := by
 have ih := R13 (callN cfg k) (icallN cfg (callN cfg k) 20) k
 refine (show callN cfg (k + 1) 13 (A13 a0 a1 a2 a3 a4 a5 a6 a7) [] = GO 13 Tryd.f13 (A13 a0 a1 a2 a3 a4 a5 a6 a7) [] (callN cfg k) (icallN cfg (callN cfg k) 20) (RN 13 Tryd.f13 [] (callN cfg k) (icallN cfg (callN cfg k) 20) k) by kernel_rfl).trans ((E13 _ _ _ a0 a1 a2 a3 a4 a5 a6 a7).trans ?_)
 rw [show (fun l0 l1 i2 s3 l4 i5 l6 b7 i8 i9 i10 i11 i12 i13 i14 l15 l16 i17 i18 => RN 13 Tryd.f13 [] (callN cfg k) (icallN cfg (callN cfg k) 20) k (tdOf Tryd.f13 0) (K13_0 l0 l1 i2 s3 l4 i5 l6 b7 i8 i9 i10 i11 i12 i13 i14 l15 l16 i17 i18)) = (L13 (callN cfg k) k) from (funext fun l0 => funext fun l1 => funext fun i2 => funext fun s3 => funext fun l4 => funext fun i5 => funext fun l6 => funext fun b7 => funext fun i8 => funext fun i9 => funext fun i10 => funext fun i11 => funext fun i12 => funext fun i13 => funext fun i14 => funext fun l15 => funext fun l16 => funext fun i17 => funext fun i18 => ih l0 l1 i2 s3 l4 i5 l6 b7 i8 i9 i10 i11 i12 i13 i14 l15 l16 i17 i18)]
theorem M13 (a0 : List V) (a1 : List V) (a2 : Int) (a3 : List V) (a4 : Bool) (a5 : Int) (a6 : Int) (a7 : Int) {r : V × List Ob} (h : Evt (fun k n => T13 (callN cfg k) (L13 (callN cfg k) n) a0 a1 a2 a3 a4 a5 a6 a7) r) : Ret 13 [V.lst 5 false a0, V.agg [V.lst 3 false a1, V.int IntKind.i64 a2, V.lst 9 false a3, V.bool a4, V.int IntKind.i64 a5, V.int IntKind.i64 a6], V.int IntKind.u16 a7] [] r := ret_mk (g := fun k n => T13 (callN cfg k) (L13 (callN cfg k) n) a0 a1 a2 a3 a4 a5 a6 a7) (fun k => C13 k a0 a1 a2 a3 a4 a5 a6 a7) h
theorem N13_0 (l0 : List V) (l1 : List V) (i2 : Int) (s3 : List UInt8) (l4 : List V) (i5 : Int) (l6 : List V) (b7 : Bool) (i8 : Int) (i9 : Int) (i10 : Int) (i11 : Int) (i12 : Int) (i13 : Int) (i14 : Int) (l15 : List V) (l16 : List V) (i17 : Int) (i18 : Int) {r : V × List Ob} (h : Evt (fun k n => T13_0 (callN cfg k) (L13 (callN cfg k) n) l0 l1 i2 s3 l4 i5 l6 b7 i8 i9 i10 i11 i12 i13 i14 l15 l16 i17 i18) r) : Evt (fun k n => (L13 (callN cfg k) n) l0 l1 i2 s3 l4 i5 l6 b7 i8 i9 i10 i11 i12 i13 i14 l15 l16 i17 i18) r := evt_step (fun k n => rfl) h
end Go.Proofs.YtemgbdncidgoiaaDoor
end
section
namespace Go.Proofs.YtemgbdncidgoiaaDoor
open Go.Ev Go
def sumW : List Fd → Nat
  | [] => 0
  | f :: r => (f.2.2.2 - f.2.1) + sumW r
theorem sumW_app : ∀ l r : List Fd, sumW (l ++ r) = sumW l + sumW r
  | [], r => by simp [sumW]
  | f :: l, r => by rw [List.cons_append, sumW, sumW, sumW_app l r]; omega
def PW (l : List Fd) (c : Nat) : Prop := l = [] ∨ ∃ l0 f, l = l0 ++ [f] ∧ f.2.1 ≤ f.2.2.2 ∧ sumW l0 ≤ f.2.1 ∧ f.2.2.2 ≤ c
theorem PW_sum {l : List Fd} {c : Nat} (h : PW l c) : sumW l ≤ c := by
  rcases h with rfl | ⟨l0, f, rfl, h1, h2, h3⟩
  · simp [sumW]
  · rw [sumW_app]; simp only [sumW]; omega
theorem PW_le {l : List Fd} {c d : Nat} (h : PW l c) (hd : c ≤ d) : PW l d := by
  rcases h with rfl | ⟨l0, f, rfl, h1, h2, h3⟩
  · exact .inl rfl
  · exact .inr ⟨l0, f, rfl, h1, h2, by omega⟩
theorem setTo_snoc (l0 : List Fd) (f : Fd) (to : Nat) : setTo (l0 ++ [f]) to = l0 ++ [(f.1, f.2.1, f.2.2.1, to)] := by
  have e : (l0 ++ [f])[(l0 ++ [f]).length - 1]? = some f := by simp
  unfold setTo
  rw [e]
  simp
theorem stepH_PW {b : Bs} {st : List Fd × Bool} {x : Ln} {c : Nat} (h : PW st.1 c) (h1 : c ≤ x.1) (h2 : x.1 ≤ x.2.2) : PW (stepH b st x).1 x.2.2 := by
  unfold stepH
  split
  · split
    · rcases h with h | ⟨l0, f, h, k1, k2, k3⟩
      · rw [h]; exact .inl rfl
      · rw [h]
        simp only [setTo_snoc]
        exact .inr ⟨l0, _, rfl, by simp only; omega, by simp only; omega, by simp only; omega⟩
    · exact PW_le h (by omega)
  · split
    · exact PW_le h (by omega)
    · refine .inr ⟨st.1, _, rfl, by simp only; omega, ?_, by simp only; omega⟩
      have := PW_sum h
      simp only; omega
def ChainL : Nat → List Ln → Prop
  | _, [] => True
  | c, x :: r => c ≤ x.1 ∧ x.1 ≤ x.2.2 ∧ ChainL x.2.2 r
theorem chain_take : ∀ (k c : Nat) (l : List Ln), ChainL c l → ChainL c (l.take k)
  | 0, c, l, _ => trivial
  | k + 1, c, [], _ => trivial
  | k + 1, c, x :: r, h => ⟨h.1, h.2.1, chain_take k _ r h.2.2⟩
theorem chain_G : ∀ (n a : Nat) (s : Bs), ChainL a (linesG n a s)
  | 0, a, s => trivial
  | n + 1, a, s => by
    unfold linesG
    split
    · trivial
    · split
      · exact ⟨by simp only; omega, by simp only; omega, trivial⟩
      · exact ⟨by simp only; omega, by simp only; omega, chain_G n _ _⟩
theorem chain_of (fr to : Int) (b : Bs) : ∃ c, c ≤ b.length ∧ ChainL c (linesOf fr to b) := by
  unfold linesOf
  split
  · exact ⟨fr.toNat, by omega, chain_G _ _ _⟩
  · exact ⟨0, by omega, trivial⟩
theorem foldH_PW {b : Bs} {m : Nat} : ∀ (l : List Ln) (st : List Fd × Bool) (c : Nat), ChainL c l → (∀ x ∈ l, x.2.2 ≤ m) → c ≤ m → PW st.1 c → PW (l.foldl (stepH b) st).1 m
  | [], st, c, _, _, hc, h => PW_le h hc
  | x :: r, st, c, hch, hm, hc, h => by
    rw [List.foldl_cons]
    exact foldH_PW r _ x.2.2 hch.2.2 (fun y hy => hm y (by simp [hy])) (hm x (by simp)) (stepH_PW h hch.1 hch.2.1)
theorem headF_W (b : Bs) (fr to : Int) : sumW (headF b fr to).1 ≤ b.length := by
  obtain ⟨c, hc, hch⟩ := chain_of fr to b
  have hb : ∀ x ∈ linesOf fr to b, x.2.2 ≤ b.length := fun x hx => (linesOf_bounds x hx).2.2
  unfold headF
  split
  · simp [sumW]
  · split
    · exact PW_sum (foldH_PW _ _ c (chain_take _ _ _ hch) (fun x hx => hb x (List.mem_of_mem_take hx)) hc (.inl rfl))
    · exact PW_sum (foldH_PW _ _ c hch hb hc (.inl rfl))
theorem pieceF_W (b : Bs) (f : Fd) : (pieceF b f).length ≤ (f.2.2.2 - f.2.1) + 2 := by
  have hl : (subF b f.2.1 f.2.2.2).length ≤ f.2.2.2 - f.2.1 := by unfold subF; rw [List.length_drop, List.length_take]; omega
  unfold pieceF
  split
  · rw [List.length_append]
    split
    · simp only [List.length_cons, List.length_nil]; omega
    · simp only [List.length_nil]; omega
  · simp
theorem sumS_W (b : Bs) (names : List Bs) (but : Bool) : ∀ l : List Fd, sumS b names but l ≤ sumW l + 2 * l.length
  | [] => by simp [sumS]
  | f :: r => by
    have h1 := sumS_W b names but r
    have h2 := pieceF_W b f
    rw [sumS, sumW, List.length_cons]
    split <;> omega
theorem message_small (b : Bs) (p : Pt) (s : Sp) : (messageF b p s).length ≤ 3 * b.length + 2 := by
  have hsome : ∀ but, (someF b (headF b (p.hd.1 : Nat) (p.hd.2 : Nat)).1 s.names but).length ≤ 3 * b.length + 2 := by
    intro but
    obtain ⟨_, k2⟩ := headF_ok b (p.hd.1 : Nat) (p.hd.2 : Nat)
    have h1 := headF_W b (p.hd.1 : Nat) (p.hd.2 : Nat)
    have h2 := sumS_W b s.names but (headF b (p.hd.1 : Nat) (p.hd.2 : Nat)).1
    rw [someF_len]; omega
  unfold messageF
  split
  · have := bytesF_le b p.hd.1 p.bd.2; omega
  split
  · have := bytesF_le b p.hd.1 p.hd.2; omega
  split
  · have := bytesF_le b p.bd.1 p.bd.2; omega
  split
  · exact hsome true
  split
  · exact hsome false
  · simp
theorem all_small (b : Bs) (p : Pt) (s : Sp) : (allF b p s).length ≤ 3 * b.length + 2 := by
  unfold allF
  split
  · split
    · exact message_small b p s
    · split
      · simp
      · rename_i q _
        split
        · have := bytesF_le b q.bd.1 q.bd.2; omega
        split
        · have := bytesF_le b q.hd.1 q.hd.2; omega
        split
        · exact message_small b _ s
        · simp
  · simp
def noCut (s : Sp) : Sp := ⟨s.path, s.what, s.names, false, 0, 0⟩
def doCut (s : Sp) (F M : Nat) : Sp := ⟨s.path, s.what, s.names, true, (F : Nat), (M : Nat)⟩
theorem check_cut (s : Sp) {F M : Nat} (hF : F ≤ 4294967295) (hM : 1 ≤ M ∧ M ≤ 4294967295) : checkF (doCut s F M) = checkF (noCut s) := by
  have h1 : inB 0 ((F : Nat) : Int) = true := decide_eq_true (by omega)
  have h2 : inB 1 ((M : Nat) : Int) = true := decide_eq_true (by omega)
  have e1 : (if (doCut s F M).cut then inB 0 (doCut s F M).fr && inB 1 (doCut s F M).many else decide ((doCut s F M).fr = 0 ∧ (doCut s F M).many = 0)) = true := by
    show (inB 0 ((F : Nat) : Int) && inB 1 ((M : Nat) : Int)) = true
    rw [h1, h2]; rfl
  have e2 : (if (noCut s).cut then inB 0 (noCut s).fr && inB 1 (noCut s).many else decide ((noCut s).fr = 0 ∧ (noCut s).many = 0)) = true := rfl
  unfold checkF
  rw [e1, e2]
  rfl
theorem all_cut (b : Bs) (p : Pt) (s : Sp) {F M : Nat} (hF : F ≤ 4294967295) (hM : 1 ≤ M ∧ M ≤ 4294967295) : allF b p (doCut s F M) = allF b p (noCut s) := by
  unfold allF
  rw [check_cut s hF hM]
  rfl
theorem gets_no (b : Bs) (p : Pt) (s : Sp) : getsF b p (noCut s) = allF b p (noCut s) := rfl
theorem gets_do (b : Bs) (p : Pt) (s : Sp) {F M : Nat} (hF : F ≤ 4294967295) (hM : 1 ≤ M ∧ M ≤ 4294967295) : getsF b p (doCut s F M) = cutB (allF b p (noCut s)) (F : Nat) (M : Nat) := by
  show cutB (allF b p (doCut s F M)) _ _ = _
  rw [all_cut b p s hF hM]; rfl
theorem cutB_in (A : Bs) {F M : Nat} (hF : F ≤ A.length) (hM : 1 ≤ M) : cutB A (F : Nat) (M : Nat) = subF A F (F + min M (A.length - F)) := by
  unfold cutB
  rw [if_neg (by omega), Int.toNat_natCast, Int.toNat_natCast]
theorem cutB_out (A : Bs) {F M : Nat} (hF : A.length < F) : cutB A (F : Nat) (M : Nat) = [] := by
  unfold cutB
  rw [if_pos (by omega)]
def wsum : Int → List Bs → Int
  | a, [] => a
  | a, n :: r => wsum (IntKind.wrap .i64 (a + (n.length : Nat))) r
def fineF (s : Sp) (w : Int) : Bool := decide (s.path.length ≤ 70 ∧ s.names.length ≤ 110 ∧ w ≤ 400)
def BigOk (s : Sp) : Prop := s.names.length ≤ 140737488355328 ∧ ∀ n ∈ s.names, n.length ≤ 140737488355328
theorem wsum_small : ∀ (l : List Bs) (a : Nat), a + l.length * 140737488355328 ≤ 9223372036854775807 → (∀ n ∈ l, n.length ≤ 140737488355328) → wsum (a : Nat) l ≤ 400 → ∀ n ∈ l, n.length ≤ 400
  | [], a, _, _, _ => by simp
  | x :: r, a, ha, hl, hw => by
    have hx := hl x (by simp)
    rw [List.length_cons, Nat.add_mul, Nat.one_mul] at ha
    have hmono : ∀ (l : List Bs) (a : Nat), a + l.length * 140737488355328 ≤ 9223372036854775807 → (∀ n ∈ l, n.length ≤ 140737488355328) → (a : Int) ≤ wsum (a : Nat) l := by
      intro l
      induction l with
      | nil => intro a _ _; exact Int.le_refl _
      | cons y q ih =>
        intro a ha hl
        have hy := hl y (by simp)
        rw [List.length_cons, Nat.add_mul, Nat.one_mul] at ha
        rw [wsum, show IntKind.wrap .i64 (((a : Nat) : Int) + ((y.length : Nat) : Int)) = ((a + y.length : Nat) : Int) from by rw [wrap64 (by omega) (by omega)]; omega]
        have := ih (a + y.length) (by omega) (fun n hn => hl n (by simp [hn]))
        omega
    rw [wsum, show IntKind.wrap .i64 (((a : Nat) : Int) + ((x.length : Nat) : Int)) = ((a + x.length : Nat) : Int) from by rw [wrap64 (by omega) (by omega)]; omega] at hw
    have h1 := hmono r (a + x.length) (by omega) (fun n hn => hl n (by simp [hn]))
    have h2 := wsum_small r (a + x.length) (by omega) (fun n hn => hl n (by simp [hn])) hw
    intro n hn
    rcases List.mem_cons.1 hn with rfl | hn
    · omega
    · exact h2 n hn
theorem fine_ok {s : Sp} (hs : BigOk s) (h : fineF s (wsum 0 s.names) = true) : SpOk s := by
  obtain ⟨h1, h2, h3⟩ := of_decide_eq_true h
  have := wsum_small s.names 0 (by omega) hs.2 h3
  exact ⟨by omega, fun n hn => by have := this n hn; omega, by omega⟩
theorem loop29 (s : Sp) (hs : s.names.length ≤ 140737488355328) : ∀ (m i : Nat) (a : Int), s.names.length - i = m → i ≤ s.names.length →
    Evt (fun k j => L29 (callN cfg k) j a (i : Nat) (s.path.map pathV) s.what (s.names.map V.str) s.cut s.fr s.many) (.bool (fineF s (wsum a (s.names.drop i))), [])
  | 0, i, a, h, hi => by
    refine N29_0 a (i : Nat) (s.path.map pathV) s.what (s.names.map V.str) s.cut s.fr s.many ?_
    have h1 : ¬ (((i : Nat) : Int) < ((s.names.length : Nat) : Int)) := by omega
    rw [List.drop_eq_nil_of_le (by omega), wsum]
    simp only [T29_0, List.length_map, h1, decide_false, Bool.false_eq_true, if_false]
    refine evt_opt (v := fineF s a) ?_ (evt_some _)
    unfold fineF
    by_cases k1 : s.path.length ≤ 70
    · have k1' : ((s.path.length : Nat) : Int) ≤ 70 := by omega
      by_cases k2 : s.names.length ≤ 110
      · have k2' : ((s.names.length : Nat) : Int) ≤ 110 := by omega
        simp only [k1, k1', k2, k2', decide_true, if_true, true_and]
      · have k2' : ¬ (((s.names.length : Nat) : Int) ≤ 110) := by omega
        simp only [k1', k2, k2', decide_true, decide_false, if_true, Bool.false_eq_true, if_false, false_and, and_false]
    · have k1' : ¬ (((s.path.length : Nat) : Int) ≤ 70) := by omega
      simp only [k1, k1', decide_false, Bool.false_eq_true, if_false, false_and]
  | m + 1, i, a, h, hi => by
    have hlt : i < s.names.length := by omega
    refine N29_0 a (i : Nat) (s.path.map pathV) s.what (s.names.map V.str) s.cut s.fr s.many ?_
    have h1 : (((i : Nat) : Int) < ((s.names.length : Nat) : Int)) := by omega
    have h2 : (0 : Int) ≤ (i : Nat) := by omega
    have hg : (s.names.map V.str).getD i .bot = .str s.names[i] := by simp [List.getD, hlt]
    have hw : IntKind.wrap .i64 (((i : Nat) : Int) + 1) = ((i + 1 : Nat) : Int) := by rw [wrap64 (by omega) (by omega)]; omega
    have hd : s.names.drop i = s.names[i] :: s.names.drop (i + 1) := List.drop_eq_getElem_cons hlt
    rw [hd, wsum]
    simp only [T29_0, List.length_map, h1, decide_true, if_true, chk_p h2, chk_t, Int.toNat_natCast, hg, getS_str, hw]
    exact loop29 s hs m (i + 1) _ (by omega) (by omega)
theorem ret29 (s : Sp) (hs : s.names.length ≤ 140737488355328) : Ret 29 [specV s] [] (.bool (fineF s (wsum 0 s.names)), []) := by
  refine M29 (s.path.map pathV) s.what (s.names.map V.str) s.cut s.fr s.many ?_
  simp only [T29]
  exact loop29 s hs s.names.length 0 0 (by omega) (by omega)
theorem loop13 (b : Bs) (hb : b.length ≤ 1000) (p : Pt) (hc : cntF p ≤ 1000) (s : Sp) (hs : SpOk s) (M : Nat) (hM : 1 ≤ M ∧ M ≤ 50) (A : Bs) (hA : allF b p (noCut s) = A) : ∀ (m F : Nat) (t : Bs), A.length + 1 - F ≤ m → F ≤ 4050 → t = subF A 0 (min F A.length) →
    Evt (fun k j => L13 (callN cfg k) j (ofBytes b) (ofBytes A) (A.length : Nat) t (s.path.map pathV) s.what (s.names.map V.str) true (F : Nat) (M : Nat) (p.kd : Nat) (p.hd.1 : Nat) (p.hd.2 : Nat) (p.bd.1 : Nat) (p.bd.2 : Nat) (p.ks.map partV) (p.cs.map cutV) (p.en.1 : Nat) (p.en.2 : Nat)) (.bool true, []) := by
  have hAl := all_small b p (noCut s)
  rw [hA] at hAl
  have hsd : ∀ F : Nat, SpOk (doCut s F M) := fun F => hs
  have hspec : ∀ F : Nat, V.agg [.lst 3 false (s.path.map pathV), .int .i64 s.what, .lst 9 false (s.names.map V.str), .bool true, .int .i64 ((F : Nat) : Int), .int .i64 ((M : Nat) : Int)] = specV (doCut s F M) := fun F => rfl
  intro m
  induction m with
  | zero =>
    intro F t hm hF ht
    have hFA : A.length < F := by omega
    refine N13_0 (ofBytes b) (ofBytes A) (A.length : Nat) t (s.path.map pathV) s.what (s.names.map V.str) true (F : Nat) (M : Nat) (p.kd : Nat) (p.hd.1 : Nat) (p.hd.2 : Nat) (p.bd.1 : Nat) (p.bd.2 : Nat) (p.ks.map partV) (p.cs.map cutV) (p.en.1 : Nat) (p.en.2 : Nat) ?_
    have h1 : ¬ (((F : Nat) : Int) ≤ ((A.length : Nat) : Int)) := by omega
    have g := ret28 b (by omega) p (by omega) (doCut s F M) (hsd F)
    rw [gets_do b p s (by omega) (by omega), hA, cutB_out A hFA] at g
    have htA : t = A := by rw [ht, Nat.min_eq_right (by omega), subF_all]
    simp only [T13_0, h1, decide_false, Bool.false_eq_true, if_false, bind_s, ofBytes_length, beq_self_eq_true, if_true, bytesOf_ofBytes, htA, sEq_refl, part_agg, hspec]
    refine evt_bind g ?_
    exact evt_some _
  | succ m ih =>
    intro F t hm hF ht
    refine N13_0 (ofBytes b) (ofBytes A) (A.length : Nat) t (s.path.map pathV) s.what (s.names.map V.str) true (F : Nat) (M : Nat) (p.kd : Nat) (p.hd.1 : Nat) (p.hd.2 : Nat) (p.bd.1 : Nat) (p.bd.2 : Nat) (p.ks.map partV) (p.cs.map cutV) (p.en.1 : Nat) (p.en.2 : Nat) ?_
    have g := ret28 b (by omega) p (by omega) (doCut s F M) (hsd F)
    rw [gets_do b p s (by omega) (by omega), hA] at g
    by_cases hFA : F ≤ A.length
    · have h1 : (((F : Nat) : Int) ≤ ((A.length : Nat) : Int)) := by omega
      have h2 : (((F : Nat) : Int) ≤ 4000) := by omega
      have hw : IntKind.wrap .i64 (((F : Nat) : Int) + ((M : Nat) : Int)) = ((F + M : Nat) : Int) := by rw [wrap64 (by omega) (by omega)]; omega
      rw [cutB_in A hFA hM.1] at g
      have hcat : t ++ subF A F (F + min M (A.length - F)) = subF A 0 (min (F + M) A.length) := by
        rw [ht, Nat.min_eq_left hFA, subF_cat A (by omega) (by omega) (by omega)]
        congr 1; omega
      have c1 : catOk t (subF A F (F + min M (A.length - F))) = true := cat_ok (by
        have := subF_le A F (F + min M (A.length - F))
        have : t.length ≤ A.length := by rw [ht]; exact subF_le _ _ _
        omega)
      simp only [T13_0, h1, h2, decide_true, if_true, bind_s, part_agg, hspec, hw]
      refine evt_bind g ?_
      simp only [getL_lst, bytesOf_ofBytes, chk_b c1]
      exact ih (F + M) _ (by omega) (by omega) hcat
    · have h1 : ¬ (((F : Nat) : Int) ≤ ((A.length : Nat) : Int)) := by omega
      rw [cutB_out A (by omega)] at g
      have htA : t = A := by rw [ht, Nat.min_eq_right (by omega), subF_all]
      simp only [T13_0, h1, decide_false, Bool.false_eq_true, if_false, bind_s, ofBytes_length, beq_self_eq_true, if_true, bytesOf_ofBytes, htA, sEq_refl, part_agg, hspec]
      refine evt_bind g ?_
      exact evt_some _
theorem ret13 (b : Bs) (s : Sp) (hs : BigOk s) (n : Int) (hn : 0 ≤ n ∧ n < 65536) : Ret 13 [.lst 5 false (ofBytes b), specV s, .int .u16 n] [] (.bool true, []) := by
  obtain ⟨N, rfl⟩ : ∃ N : Nat, n = N := ⟨n.toNat, by omega⟩
  refine M13 (ofBytes b) (s.path.map pathV) s.what (s.names.map V.str) s.cut s.fr s.many (N : Nat) ?_
  simp only [T13, spec_agg]
  refine evt_bind ret27 ?_
  simp only [getB_bool, Bool.not_true, Bool.false_eq_true, if_false, ofBytes_length]
  refine evt_bind (ret29 s hs.1) ?_
  simp only [getB_bool]
  refine evt_opt (v := !fineF s (wsum 0 s.names) || decide (1000 < b.length)) ?_ ?_
  · cases fineF s (wsum 0 s.names) with
    | false => simp
    | true =>
      by_cases q : 1000 < b.length
      · have : ((b.length : Nat) : Int) > 1000 := by omega
        simp [q, this]
      · have : ¬ (((b.length : Nat) : Int) > 1000) := by omega
        simp [q, this]
  · cases hf : (!fineF s (wsum 0 s.names) || decide (1000 < b.length)) with
    | true => simp only [if_true]; exact evt_some _
    | false =>
      have hb : b.length ≤ 1000 := by
        simp only [Bool.or_eq_false_iff, decide_eq_false_iff_not] at hf
        omega
      have hfi : fineF s (wsum 0 s.names) = true := by
        simp only [Bool.or_eq_false_iff, Bool.not_eq_false'] at hf
        exact hf.1
      have hs := fine_ok hs hfi
      have r15 := ret15 b (by omega)
      have cT := entF_n b 32 0 b.length false 1 (by omega)
      have cT2 := entF_cnt b 32 0 b.length false 1
      generalize (entF b 32 0 b.length false 1).1 = T at *
      have hc : cntF T ≤ 1000 := by omega
      have hso : SpOk (noCut s) := hs
      have ga := ret28 b (by omega) T (by omega) (noCut s) hso
      have gz := ret30 b (by omega) T (by omega) (noCut s) hso
      rw [gets_no] at ga
      have hspec : V.agg [.lst 3 false (s.path.map pathV), .int .i64 s.what, .lst 9 false (s.names.map V.str), .bool false, .int .i64 (0 : Int), .int .i64 (0 : Int)] = specV (noCut s) := rfl
      have g50 : ((50 : Int) != 0) = true := rfl
      have hw : IntKind.wrap .i64 (IntKind.wrap .i64 (Int.tmod ((N : Nat) : Int) 50) + 1) = ((N % 50 + 1 : Nat) : Int) := by
        rw [show Int.tmod ((N : Nat) : Int) 50 = ((N % 50 : Nat) : Int) from rfl, wrapN (N % 50) (by omega), wrap64 (by omega) (by omega)]; omega
      simp only [Bool.false_eq_true, if_false]
      refine evt_bind r15 ?_
      simp only [getT_tup, List.headD_cons, List.tail_cons, eta_part, hspec]
      refine evt_bind ga ?_
      refine evt_bind gz ?_
      simp only [getL_lst, getI_int, chk_b g50, hw, cells_part, List.headD_cons, List.tail_cons]
      exact loop13 b hb T hc s hs (N % 50 + 1) (by omega) _ rfl ((allF b T (noCut s)).length + 1) 0 [] (by omega) (by omega) (by simp [subF])
end Go.Proofs.YtemgbdncidgoiaaDoor
end
section
namespace Go.Proofs.YtemgbdncidgoiaaDoor
open Go.ChangeShapes Go.WideShapes Go.ChangeAt Go.RowKit Go.Ev
theorem cells5 : Tryd.prog.cellsOf 5 = 1 := by kernel_rfl
theorem size5 : tySize cfg 5 = 1 := by kernel_rfl
theorem fits5 (n : Int) : fitsE cfg 5 (.int .u8 n) = true := by kernel_rfl
theorem flat_u8 (zs : List Int) : flat (zs.map (Value.int .u8)) = zs.map (Value.int .u8) := by
  induction zs with
  | nil => rfl
  | cons z zs ih => simp only [flat, List.map_cons, List.flatMap_cons, Value.cells] at ih ⊢; rw [ih]; rfl
theorem slice_block {P : Program} {w : World} {r : Reach} {base : Nat} {t e : TypeId} {a : Addr} {len cap : Nat} (ht : P.underlying t = some (.slice e)) (h : Value.okWide P w r base t (.slice (some a) len cap)) : a.block < w.heap.size := by
  simp only [Value.okWide, ht, Cell.okWide, Cell.ok] at h
  obtain ⟨_, _, _, _, row, cells, hs, _⟩ := h
  unfold World.shape? at hs
  by_cases hb : a.block < w.heap.size
  · exact hb
  · rw [Array.getElem?_eq_none (by omega)] at hs
    simp at hs
set_option maxRecDepth 100000 in
theorem bytes_in {H : Type} {enc : TypeId × Value → H} {W : World} {base : Nat} {v : Value} {d : DataW H} {p : List MemPlace} (hval : Value.okWide Tryd.prog W .any base 32 v)
    (h : DataW.Trod enc Tryd.prog W 0 (fun _ => true) true 32 v d p) :
    ∃ vs : List UInt8, Rep cfg W (sizes W) [] (.lst 5 false (ofBytes vs)) v ∧
      ∀ W', Kept W W' → ∀ sp : Nat → Bool, (∀ x ∈ p, sp x.block = true) → DataW.Trod enc Tryd.prog W' 0 sp true 32 v d p := by
  obtain ⟨a1, len, cap, rfl⟩ := okWide_slice Tryd.underlying32 hval
  obtain ⟨fuel, hf⟩ := h
  rcases open_ints Tryd.underlying32 Tryd.underlying5 cells5 hf with ⟨hcs, hx⟩ | ⟨a, len', cap', zs, hcs, _, hl, hm, hz, hx, hcell, hwz⟩
  · simp [Value.cells] at hcs
    obtain ⟨rfl, rfl, rfl⟩ := hcs
    simp only [Prod.mk.injEq] at hx
    obtain ⟨rfl, rfl⟩ := hx
    refine ⟨[], ?_, fun W' _ sp _ => shut_slice_nil Tryd.underlying32⟩
    exact Rep.lst 5 false [] none 0 [] rfl (fun i v x h => by simp at h) (fun v h => by cases h) (fun x h => by cases h) (by rw [size5]; omega) (Nat.le_refl _) ⟨fun _ => rfl, fun p h => by cases h⟩ (fun p h => by cases h)
  · simp [Value.cells] at hcs
    obtain ⟨rfl, rfl, rfl⟩ := hcs
    simp only [Prod.mk.injEq] at hx
    obtain ⟨rfl, rfl⟩ := hx
    have hblk : a.block < W.heap.size := slice_block Tryd.underlying32 hval
    have hsn : some a = none → cap = 0 := fun h => by cases h
    have hsb : ∀ p, some a = some p → p.block < W.heap.size := fun p hp => by cases hp; exact hblk
    simp only [if_true] at hz
    have hrng : ∀ n ∈ zs, 0 ≤ n ∧ n < 256 := fun n hn => by have := bounds_u8 (hwz n hn); omega
    refine ⟨(zs.take len).map fun n => UInt8.ofNat n.toNat, ?_, fun W' hk sp hsp => ?_⟩
    · have hxs : ofBytes ((zs.take len).map fun n => UInt8.ofNat n.toNat) = (zs.take len).map (V.int .u8) := by
        unfold ofBytes
        rw [List.map_map]
        refine List.map_congr_left fun n hn => ?_
        have := hrng n (List.mem_of_mem_take hn)
        simp only [Function.comp, UInt8.toNat_ofNat']
        congr 1
        omega
      have hlen : (ofBytes ((zs.take len).map fun n => UInt8.ofNat n.toNat)).length = len := by rw [hxs]; simp; omega
      have := Rep.lst (c := cfg) (w := W) (G := sizes W) (μ := []) 5 false (ofBytes ((zs.take len).map fun n => UInt8.ofNat n.toNat)) (some a) cap ((zs.take len).map (Value.int .u8)) (by rw [hlen]; simp; omega) (fun i v x hv hx => by
          rw [hxs] at hv
          obtain ⟨n, h1, rfl⟩ := get_map hv
          obtain ⟨n', h2, rfl⟩ := get_map hx
          rw [h1] at h2; cases h2
          exact .int _ _) (fun v hv => by
          rw [hxs] at hv
          obtain ⟨n, _, rfl⟩ := List.mem_map.1 hv
          exact fits5 n) (fun x hx => by
          obtain ⟨n, _, rfl⟩ := List.mem_map.1 hx
          rw [size5]; rfl) (by rw [size5]; omega) (by rw [hlen]; exact hl) ⟨hsn, hsb⟩ (fun p hp hne => by
          cases hp
          have hl0 : 0 < len := by
            rcases Nat.eq_zero_or_pos len with h0 | h0
            · exact absurd (List.eq_nil_of_length_eq_zero (hlen.trans h0)) hne
            · exact h0
          obtain ⟨ab, ao, spot⟩ := a
          have hspot : spot = none := by simpa [Addr.add] using World.cell?_spot (hcell 0 (by omega))
          subst hspot
          refine ⟨rfl, ?_⟩
          rw [flat_u8]
          refine srow_sizes fun j x hj => ?_
          have hjl := (List.getElem?_eq_some_iff.1 hj).1
          rw [List.length_map, List.length_take] at hjl
          have hjl : j < len ∧ j < zs.length := by omega
          have hc := hcell j (by omega)
          rw [Addr.add_lit] at hc
          rw [hc]
          rw [List.getElem?_map, List.getElem?_take, if_pos hjl.1, List.getElem?_eq_getElem hjl.2] at hj
          simp at hj
          rw [← hj]; simp [List.getD, hjl.2])
      rw [hlen] at this
      exact this
    · have hzl : zs.length = (if sp a.block then cap else len) := by
        rcases Nat.eq_zero_or_pos zs.length with h0 | h0
        · split <;> omega
        · have : sp a.block = true := hsp (.cell a.block (a.off + 0)) (by simp only [MemPlace.row, List.mem_map, List.mem_range]; exact ⟨0, h0, rfl⟩)
          rw [if_pos this]; exact hz
      exact ⟨2, shut_ints 0 Tryd.underlying32 Tryd.underlying5 cells5 (Nat.zero_le _) hl hm hzl (fun i hi => hk.cell _ _ (hcell i hi)) hwz⟩
end Go.Proofs.YtemgbdncidgoiaaDoor
end
section
namespace Go.Proofs.YtemgbdncidgoiaaDoor
open Go.ChangeShapes Go.WideShapes Go.ChangeAt Go.RowKit Go.Ev
section
variable {H : Type} {enc : TypeId × Value → H} {P : Program} {w : World} {base : Nat} {spare : Nat → Bool} {held : Bool}
theorem shut_cells {t e : TypeId} {a : Addr} {len cap n : Nat} {f : Nat → Value} {g : Nat → DataW H} (m : Nat) (ht : P.underlying t = some (.slice e)) (hc : P.cellsOf e = 1) (hb : base ≤ a.block) (hl : len ≤ cap) (hm : cap ≤ maxLen)
    (hn : n = (if spare a.block then cap else len)) (hcell : ∀ i, i < n → w.cell? (a.add i) = some (f i)) (hone : ∀ i, i < n → DataW.trod enc P w base spare held (m + 1) e [f i] = some (g i, [])) :
    DataW.trod enc P w base spare held (m + 2) t [.slice (some a) len cap] = some (.slice ((List.range len).map g) ((List.range (n - len)).map fun j => g (len + j)), MemPlace.row a n) := by
  have hlz : len ≤ n := by rw [hn]; split <;> omega
  have each : ∀ i, i < n → (w.cells? base (a.add (i * P.cellsOf e)) (P.cellsOf e)).bind (DataW.trod enc P w base spare held (m + 1) e) = some ((g i, []) : DataW H × List MemPlace) := by
    intro i hi
    rw [hc, Nat.mul_one, cells?_one (by rw [block_add]; exact hb) (hcell i hi)]
    exact hone i hi
  have none_of : ∀ l : List Nat, ∀ q : Nat → DataW H, (l.map fun i => ((q i, []) : DataW H × List MemPlace)).flatMap (·.2) = [] := by
    intro l q
    induction l with
    | nil => rfl
    | cons x r ih => rw [List.map_cons, List.flatMap_cons, ih]; rfl
  rw [DataW.trod_step]
  unfold DataW.trodStep
  simp only [ht]
  rw [if_pos ⟨hb, hl, hm⟩, mapM_range_of len (fun i hi => each i (by omega))]
  simp only [Option.bind_some]
  cases hs : spare a.block with
  | false =>
    have hzl : n = len := by simpa [hs] using hn
    subst hzl
    simp [hc, Function.comp_def, none_of]
  | true =>
    have hzl : n = cap := by simpa [hs] using hn
    subst hzl
    simp only [if_true]
    rw [mapM_range_of (n - len) (fun j hj => each (len + j) (by omega))]
    have e1 : len + (n - len) = n := by omega
    simp [hc, Function.comp_def, none_of, e1]
theorem trod_str {t : TypeId} {s : ByteArray} (m : Nat) (ht : P.underlying t = some .string) (hs : s.size ≤ maxLen) : DataW.trod enc P w base spare held (m + 1) t [.string s] = some (.lit (.string s.data.toList), []) := by
  simp [DataW.trod, ht, hs]
end
theorem cells9 : Tryd.prog.cellsOf 9 = 1 := by kernel_rfl
theorem size9 : tySize cfg 9 = 1 := by kernel_rfl
theorem fits9 (s : List UInt8) : fitsE cfg 9 (.str s) = true := by kernel_rfl
theorem flat_str (zs : List ByteArray) : flat (zs.map Value.string) = zs.map Value.string := by
  induction zs with
  | nil => rfl
  | cons z zs ih => simp only [flat, List.map_cons, List.flatMap_cons, Value.cells] at ih ⊢; rw [ih]; rfl
theorem strs_take {H : Type} (ss : List ByteArray) (len : Nat) (h : len ≤ ss.length) : (strs (ss.take len) : List (DataW H)) = (List.range len).map fun i => .lit (.string (ss.getD i ByteArray.empty).data.toList) := by
  unfold strs
  apply List.ext_getElem?
  intro i
  by_cases hi : i < len
  · simp [hi, List.getD, show i < ss.length by omega]
  · simp [hi, List.getElem?_take]
theorem strs_drop {H : Type} (ss : List ByteArray) (len : Nat) : (strs (ss.drop len) : List (DataW H)) = (List.range (ss.length - len)).map fun j => .lit (.string (ss.getD (len + j) ByteArray.empty).data.toList) := by
  unfold strs
  apply List.ext_getElem?
  intro j
  by_cases hj : j < ss.length - len
  · simp [hj, List.getD, show len + j < ss.length by omega]
  · simp [hj]
end Go.Proofs.YtemgbdncidgoiaaDoor
end
section
namespace Go.Proofs.YtemgbdncidgoiaaDoor
open Go.ChangeShapes Go.WideShapes Go.ChangeAt Go.RowKit Go.Ev
theorem cell_block {P : Program} {w : World} {r : Reach} {base : Nat} {t e : TypeId} {a : Addr} {len cap : Nat} (ht : P.underlying t = some (.slice e)) (h : Cell.okWide P w r base t (.slice (some a) len cap)) : a.block < w.heap.size := by
  simp only [ht, Cell.okWide, Cell.ok] at h
  obtain ⟨_, _, _, _, row, cells, hs, _⟩ := h
  unfold World.shape? at hs
  by_cases hb : a.block < w.heap.size
  · exact hb
  · rw [Array.getElem?_eq_none (by omega)] at hs
    simp at hs
theorem cells3 : Tryd.prog.cellsOf 3 = 1 := by kernel_rfl
theorem size3 : tySize cfg 3 = 1 := by kernel_rfl
theorem fits3 (n : Int) : fitsE cfg 3 (.int .i64 n) = true := by kernel_rfl
theorem flat_i64 (zs : List Int) : flat (zs.map (Value.int .i64)) = zs.map (Value.int .i64) := by
  induction zs with
  | nil => rfl
  | cons z zs ih => simp only [flat, List.map_cons, List.flatMap_cons, Value.cells] at ih ⊢; rw [ih]; rfl
set_option maxRecDepth 100000 in
theorem ints_cell {H : Type} {enc : TypeId × Value → H} {W : World} {v : Value} {d : DataW H} {p : List MemPlace} {fuel : Nat} (hb : ∀ a len cap, v = .slice (some a) len cap → a.block < W.heap.size)
    (hf : DataW.trod enc Tryd.prog W 0 (fun _ => true) true fuel 53 [v] = some (d, p)) :
    ∃ zs : List Int, Rep cfg W (sizes W) [] (.lst 3 false (zs.map pathV)) v ∧
      ∀ W', Kept W W' → ∀ sp : Nat → Bool, (∀ x ∈ p, sp x.block = true) → ∀ m, DataW.trod enc Tryd.prog W' 0 sp true (m + 2) 53 [v] = some (d, p) := by
  rcases open_ints Tryd.underlying53 Tryd.underlying3 cells3 hf with ⟨hcs, hx⟩ | ⟨a, len, cap, zs, hcs, _, hl, hm, hz, hx, hcell, hwz⟩
  · simp only [List.cons.injEq, and_true] at hcs
    subst hcs
    simp only [Prod.mk.injEq] at hx
    obtain ⟨rfl, rfl⟩ := hx
    refine ⟨[], ?_, fun W' _ sp _ m => by simp [DataW.trod, Tryd.underlying53]⟩
    exact Rep.lst 3 false [] none 0 [] rfl (fun i v x h => by simp at h) (fun v h => by cases h) (fun x h => by cases h) (by rw [size3]; omega) (Nat.le_refl _) ⟨fun _ => rfl, fun p h => by cases h⟩ (fun p h => by cases h)
  · simp only [List.cons.injEq, and_true] at hcs
    subst hcs
    simp only [Prod.mk.injEq] at hx
    obtain ⟨rfl, rfl⟩ := hx
    have hblk := hb a len cap rfl
    have hsn : some a = none → cap = 0 := fun h => by cases h
    have hsb : ∀ p, some a = some p → p.block < W.heap.size := fun p hp => by cases hp; exact hblk
    simp only [if_true] at hz
    refine ⟨zs.take len, ?_, fun W' hk sp hsp m => ?_⟩
    · have hlen : ((zs.take len).map pathV).length = len := by simp; omega
      have := Rep.lst (c := cfg) (w := W) (G := sizes W) (μ := []) 3 false ((zs.take len).map pathV) (some a) cap ((zs.take len).map (Value.int .i64)) (by rw [hlen]; simp; omega) (fun i v x hv hx => by
          obtain ⟨n, h1, rfl⟩ := get_map hv
          obtain ⟨n', h2, rfl⟩ := get_map hx
          rw [h1] at h2; cases h2
          exact .int _ _) (fun v hv => by
          obtain ⟨n, _, rfl⟩ := List.mem_map.1 hv
          exact fits3 n) (fun x hx => by
          obtain ⟨n, _, rfl⟩ := List.mem_map.1 hx
          rw [size3]; rfl) (by rw [size3]; omega) (by rw [hlen]; exact hl) ⟨hsn, hsb⟩ (fun p hp hne => by
          cases hp
          have hl0 : 0 < len := by
            rcases Nat.eq_zero_or_pos len with h0 | h0
            · exact absurd (List.eq_nil_of_length_eq_zero (hlen.trans h0)) hne
            · exact h0
          obtain ⟨ab, ao, spot⟩ := a
          have hspot : spot = none := by simpa [Addr.add] using World.cell?_spot (hcell 0 (by omega))
          subst hspot
          refine ⟨rfl, ?_⟩
          rw [flat_i64]
          refine srow_sizes fun j x hj => ?_
          have hjl := (List.getElem?_eq_some_iff.1 hj).1
          rw [List.length_map, List.length_take] at hjl
          have hjl : j < len ∧ j < zs.length := by omega
          have hc := hcell j (by omega)
          rw [Addr.add_lit] at hc
          rw [hc]
          rw [List.getElem?_map, List.getElem?_take, if_pos hjl.1, List.getElem?_eq_getElem hjl.2] at hj
          simp at hj
          rw [← hj]; simp [List.getD, hjl.2])
      rw [hlen] at this
      exact this
    · have hzl : zs.length = (if sp a.block then cap else len) := by
        rcases Nat.eq_zero_or_pos zs.length with h0 | h0
        · split <;> omega
        · have : sp a.block = true := hsp (.cell a.block (a.off + 0)) (by simp only [MemPlace.row, List.mem_map, List.mem_range]; exact ⟨0, h0, rfl⟩)
          rw [if_pos this]; exact hz
      exact shut_ints m Tryd.underlying53 Tryd.underlying3 cells3 (Nat.zero_le _) hl hm hzl (fun i hi => hk.cell _ _ (hcell i hi)) hwz
set_option maxRecDepth 100000 in
theorem strs_cell {H : Type} {enc : TypeId × Value → H} {W : World} {v : Value} {d : DataW H} {p : List MemPlace} {fuel : Nat} (hb : ∀ a len cap, v = .slice (some a) len cap → a.block < W.heap.size)
    (hf : DataW.trod enc Tryd.prog W 0 (fun _ => true) true fuel 58 [v] = some (d, p)) :
    ∃ ss : List (List UInt8), Rep cfg W (sizes W) [] (.lst 9 false (ss.map V.str)) v ∧ (d = .nil ∧ ss = [] ∨ ∃ r, d = .slice (ss.map fun s => .lit (.string s)) r) ∧
      ∀ W', Kept W W' → ∀ sp : Nat → Bool, (∀ x ∈ p, sp x.block = true) → ∀ m, DataW.trod enc Tryd.prog W' 0 sp true (m + 2) 58 [v] = some (d, p) := by
  rcases open_strings Tryd.underlying58 Tryd.underlying9 cells9 hf with ⟨hcs, hx⟩ | ⟨a, len, cap, zs, hcs, _, hl, hm, hz, hx, hcell, hwz⟩
  · simp only [List.cons.injEq, and_true] at hcs
    subst hcs
    simp only [Prod.mk.injEq] at hx
    obtain ⟨rfl, rfl⟩ := hx
    refine ⟨[], ?_, .inl ⟨rfl, rfl⟩, fun W' _ sp _ m => by simp [DataW.trod, Tryd.underlying58]⟩
    exact Rep.lst 9 false [] none 0 [] rfl (fun i v x h => by simp at h) (fun v h => by cases h) (fun x h => by cases h) (by rw [size9]; omega) (Nat.le_refl _) ⟨fun _ => rfl, fun p h => by cases h⟩ (fun p h => by cases h)
  · simp only [List.cons.injEq, and_true] at hcs
    subst hcs
    simp only [Prod.mk.injEq] at hx
    obtain ⟨rfl, rfl⟩ := hx
    have hblk := hb a len cap rfl
    have hsn : some a = none → cap = 0 := fun h => by cases h
    have hsb : ∀ p, some a = some p → p.block < W.heap.size := fun p hp => by cases hp; exact hblk
    simp only [if_true] at hz
    refine ⟨(zs.take len).map fun s => s.data.toList, ?_, .inr ⟨_, by unfold strs; rw [List.map_map]; rfl⟩, fun W' hk sp hsp m => ?_⟩
    · have hlen : (((zs.take len).map fun s => s.data.toList).map V.str).length = len := by simp; omega
      have := Rep.lst (c := cfg) (w := W) (G := sizes W) (μ := []) 9 false (((zs.take len).map fun s => s.data.toList).map V.str) (some a) cap ((zs.take len).map Value.string) (by rw [hlen]; simp; omega) (fun i v x hv hx => by
          rw [List.map_map] at hv
          obtain ⟨n, h1, rfl⟩ := get_map hv
          obtain ⟨n', h2, rfl⟩ := get_map hx
          rw [h1] at h2; cases h2
          simpa using Rep.str n.data.toList) (fun v hv => by
          rw [List.map_map] at hv
          obtain ⟨n, _, rfl⟩ := List.mem_map.1 hv
          exact fits9 _) (fun x hx => by
          obtain ⟨n, _, rfl⟩ := List.mem_map.1 hx
          rw [size9]; rfl) (by rw [size9]; omega) (by rw [hlen]; exact hl) ⟨hsn, hsb⟩ (fun p hp hne => by
          cases hp
          have hl0 : 0 < len := by
            rcases Nat.eq_zero_or_pos len with h0 | h0
            · exact absurd (List.eq_nil_of_length_eq_zero (hlen.trans h0)) hne
            · exact h0
          obtain ⟨ab, ao, spot⟩ := a
          have hspot : spot = none := by simpa [Addr.add] using World.cell?_spot (hcell 0 (by omega))
          subst hspot
          refine ⟨rfl, ?_⟩
          rw [flat_str]
          refine srow_sizes fun j x hj => ?_
          have hjl := (List.getElem?_eq_some_iff.1 hj).1
          rw [List.length_map, List.length_take] at hjl
          have hjl : j < len ∧ j < zs.length := by omega
          have hc := hcell j (by omega)
          rw [Addr.add_lit] at hc
          rw [hc]
          rw [List.getElem?_map, List.getElem?_take, if_pos hjl.1, List.getElem?_eq_getElem hjl.2] at hj
          simp at hj
          rw [← hj]; simp [List.getD, hjl.2])
      rw [hlen] at this
      exact this
    · have hzl : zs.length = (if sp a.block then cap else len) := by
        rcases Nat.eq_zero_or_pos zs.length with h0 | h0
        · split <;> omega
        · have : sp a.block = true := hsp (.cell a.block (a.off + 0)) (by simp only [MemPlace.row, List.mem_map, List.mem_range]; exact ⟨0, h0, rfl⟩)
          rw [if_pos this]; exact hz
      rw [strs_take zs len (by omega), strs_drop zs len]
      exact shut_cells (f := fun i => .string (zs.getD i ByteArray.empty)) m Tryd.underlying58 cells9 (Nat.zero_le _) hl hm hzl (fun i hi => hk.cell _ _ (hcell i hi)) (fun i hi => trod_str m Tryd.underlying9 (hwz _ (by
        have : zs.getD i ByteArray.empty = zs[i] := by simp [List.getD, hi]
        rw [this]
        exact List.getElem_mem hi)))
theorem weights_strs {H : Type} {P : Program} {t : TypeId} : ∀ (ss : List (List UInt8)) {n : List UInt8}, n ∈ ss → n.length ∈ DataW.weightsAll P t (ss.map fun s => (.lit (.string s) : DataW H))
  | s :: r, n, h => by
    rw [List.map_cons]
    simp only [DataW.weightsAll, DataW.weights, List.mem_append]
    rcases List.mem_cons.1 h with rfl | h
    · exact .inl (by simp)
    · exact .inr (weights_strs r h)
theorem names_big {H : Type} {d : DataW H} {ss : List (List UInt8)} (hd : d = .nil ∧ ss = [] ∨ ∃ r, d = .slice (ss.map fun s => .lit (.string s)) r) (hw : ∀ n ∈ d.weights Tryd.prog 58, n ≤ reachBytes) :
    ss.length ≤ 140737488355328 ∧ ∀ n ∈ ss, n.length ≤ 140737488355328 := by
  have hr := reachBytes_lt
  rcases hd with ⟨_, rfl⟩ | ⟨r, rfl⟩
  · simp
  · have hby : Tryd.prog.bytesOf 9 = 16 := by kernel_rfl
    have h0 := hw ((ss.length + r.length) * 16) (by simp [DataW.weights, Tryd.underlying58, hby])
    refine ⟨by omega, fun n hn => ?_⟩
    have := hw n.length (by
      simp only [DataW.weights, Tryd.underlying58, List.mem_cons, List.mem_append]
      exact .inr (.inl (weights_strs ss hn)))
    omega
theorem specCells : Tryd.prog.cellsOf 60 = 6 ∧ Tryd.prog.cellTypes Tryd.prog.depth 60 = some [53, 3, 58, 4, 3, 3] := ⟨by kernel_rfl, by kernel_rfl⟩
theorem cells_one : Tryd.prog.cellsOf 53 = 1 ∧ Tryd.prog.cellsOf 58 = 1 ∧ Tryd.prog.cellsOf 4 = 1 := ⟨by kernel_rfl, by kernel_rfl, by kernel_rfl⟩
theorem trod_bool {H : Type} {enc : TypeId × Value → H} {P : Program} {w : World} {base : Nat} {spare : Nat → Bool} {held : Bool} {t : TypeId} {b : Bool} (m : Nat) (ht : P.underlying t = some .bool) : DataW.trod enc P w base spare held (m + 1) t [.bool b] = some (.lit (.bool b), []) := by
  simp [DataW.trod, ht]
set_option maxRecDepth 100000 in
theorem spec_in {H : Type} {enc : TypeId × Value → H} {W : World} {base : Nat} {v : Value} {d : DataW H} {p : List MemPlace} (hval : Value.okWide Tryd.prog W .any base 60 v)
    (h : DataW.Trod enc Tryd.prog W 0 (fun _ => true) true 60 v d p) (hw : ∀ n ∈ d.weights Tryd.prog 60, n ≤ reachBytes) :
    ∃ s : Sp, BigOk s ∧ Rep cfg W (sizes W) [] (specV s) v ∧ ∀ W', Kept W W' → ∀ sp : Nat → Bool, (∀ x ∈ p, sp x.block = true) → DataW.Trod enc Tryd.prog W' 0 sp true 60 v d p := by
  obtain ⟨c6, ct⟩ := specCells
  obtain ⟨o1, o2, o3⟩ := cells_one
  simp only [Value.okWide, Tryd.underlying60] at hval
  obtain ⟨cs, rfl, hsz, ts, hts, _, hcell⟩ := hval
  rw [ct] at hts; cases hts
  rw [c6] at hsz
  obtain ⟨a0, a1, a2, a3, a4, a5, hcs⟩ : ∃ a0 a1 a2 a3 a4 a5, cs = #[a0, a1, a2, a3, a4, a5] := by
    obtain ⟨l⟩ := cs
    match l, hsz with
    | [a0, a1, a2, a3, a4, a5], _ => exact ⟨a0, a1, a2, a3, a4, a5, rfl⟩
  subst hcs
  obtain ⟨fuel, hf⟩ := h
  obtain ⟨xs, n, hn, hx, _, hxl, hxs⟩ := DataW.trod_struct Tryd.underlying60 hf
  obtain ⟨x0, x1, x2, x3, x4, x5, rfl⟩ : ∃ x0 x1 x2 x3 x4 x5, xs = [x0, x1, x2, x3, x4, x5] := by
    match xs, hxl with
    | [x0, x1, x2, x3, x4, x5], _ => exact ⟨x0, x1, x2, x3, x4, x5, rfl⟩
  have t0 := hxs 0 _ rfl
  have t1 := hxs 1 _ rfl
  have t2 := hxs 2 _ rfl
  have t3 := hxs 3 _ rfl
  have t4 := hxs 4 _ rfl
  have t5 := hxs 5 _ rfl
  simp [o1, o2, o3, cells3, Value.cells] at t0 t1 t2 t3 t4 t5
  obtain ⟨d0, p0⟩ := x0
  obtain ⟨d2, p2⟩ := x2
  have hb0 : ∀ a len cap, a0 = .slice (some a) len cap → a.block < W.heap.size := fun a len cap e => by
    obtain ⟨u, hu, hc⟩ := hcell 0 a0 rfl
    simp at hu
    subst hu; subst e
    exact cell_block Tryd.underlying53 hc
  have hb2 : ∀ a len cap, a2 = .slice (some a) len cap → a.block < W.heap.size := fun a len cap e => by
    obtain ⟨u, hu, hc⟩ := hcell 2 a2 rfl
    simp at hu
    subst hu; subst e
    exact cell_block Tryd.underlying58 hc
  obtain ⟨path, r0, back0⟩ := ints_cell hb0 t0
  obtain ⟨names, r2, hd2, back2⟩ := strs_cell hb2 t2
  obtain ⟨z1, e1, rfl, w1⟩ := DataW.trod_int Tryd.underlying3 t1
  obtain ⟨z3, e3, rfl⟩ := DataW.trod_bool Tryd.underlying4 t3
  obtain ⟨z4, e4, rfl, w4⟩ := DataW.trod_int Tryd.underlying3 t4
  obtain ⟨z5, e5, rfl, w5⟩ := DataW.trod_int Tryd.underlying3 t5
  simp only [List.cons.injEq, and_true] at e1 e3 e4 e5
  subst e1 e3 e4 e5
  simp only [Prod.mk.injEq] at hx
  obtain ⟨rfl, rfl⟩ := hx
  have hnb := names_big hd2 (fun n hn => hw n (by
    simp only [DataW.weights, Tryd.underlying60, List.map_cons, List.map_nil, DataW.weightsEach, List.mem_append]
    exact .inr (.inr (.inl hn))))
  have s0 : single a0 = true := by cases r0; rfl
  have s2 : single a2 = true := by cases r2; rfl
  refine ⟨⟨path, z1, names, z3, z4, z5⟩, ⟨hnb.1, hnb.2⟩, ?_, fun W' hk sp hsp => ?_⟩
  · unfold specV
    refine Rep.agg _ [a0, .int .i64 z1, a2, .bool z3, .int .i64 z4, .int .i64 z5] rfl (fun x hx => ?_) (fun i v x hv hx => ?_)
    · simp at hx
      rcases hx with rfl | rfl | rfl | rfl | rfl | rfl
      · exact s0
      · rfl
      · exact s2
      · rfl
      · rfl
      · rfl
    · match i, hv, hx with
      | 0, hv, hx => simp at hv hx; subst hv; subst hx; exact r0
      | 1, hv, hx => simp at hv hx; subst hv; subst hx; exact .int _ _
      | 2, hv, hx => simp at hv hx; subst hv; subst hx; exact r2
      | 3, hv, hx => simp at hv hx; subst hv; subst hx; exact .bool _
      | 4, hv, hx => simp at hv hx; subst hv; subst hx; exact .int _ _
      | 5, hv, hx => simp at hv hx; subst hv; subst hx; exact .int _ _
  · have b0 := back0 W' hk sp (fun x hx => hsp x (by simp [hx])) 0
    have b2 := back2 W' hk sp (fun x hx => hsp x (by simp [hx])) 0
    have b1 : DataW.trod enc Tryd.prog W' 0 sp true 2 3 [.int .i64 z1] = some (.lit (.int .i64 z1), []) := trod_int_mk 1 Tryd.underlying3 w1
    have b3 : DataW.trod enc Tryd.prog W' 0 sp true 2 4 [.bool z3] = some (.lit (.bool z3), []) := trod_bool 1 Tryd.underlying4
    have b4 : DataW.trod enc Tryd.prog W' 0 sp true 2 3 [.int .i64 z4] = some (.lit (.int .i64 z4), []) := trod_int_mk 1 Tryd.underlying3 w4
    have b5 : DataW.trod enc Tryd.prog W' 0 sp true 2 3 [.int .i64 z5] = some (.lit (.int .i64 z5), []) := trod_int_mk 1 Tryd.underlying3 w5
    refine ⟨3, ?_⟩
    rw [DataW.trod_step]
    unfold DataW.trodStep
    simp only [Tryd.underlying60]
    simp [c6, o1, o2, o3, cells3, Value.cells, b0, b1, b2, b3, b4, b5]
end Go.Proofs.YtemgbdncidgoiaaDoor
end
