/- Lemmas for the claim, merged: the plain reading of the program's functions, its soundness, and what they compute. -/
import Derived.Test.YtemgbdncidgoiaaDoorPkE
import Derived.KernelRfl
import Derived.ChangeSlices
set_option linter.all false
set_option linter.unusedVariables false
set_option linter.unusedSimpArgs false
section
namespace Go.Proofs.YtemgbdncidgoiaaDoor
open Go.Ev Go
def hasN (names : List Bs) (x : Bs) : Bool := names.any fun n => low x == low n
def idxS (x : Bs) : List Bs → Option Nat
  | [] => none
  | n :: r => if low x == low n then some 0 else (idxS x r).map (· + 1)
theorem idxS_has (x : Bs) : ∀ l : List Bs, decide (optI (idxS x l) ≥ 0) = hasN l x
  | [] => rfl
  | n :: r => by
    have ih := idxS_has x r
    unfold hasN at ih ⊢
    rw [idxS, List.any_cons]
    cases h : (low x == low n) with
    | true => simp [optI]
    | false =>
      simp only [Bool.false_eq_true, if_false, Bool.false_or]
      rw [← ih]
      cases idxS x r with
      | none => rfl
      | some k => simp only [Option.map_some, optI]; simp; omega
theorem ret94 (n x : Bs) (p q r : Int) (hn : n.length ≤ 1000000) (hx : x.length ≤ 1000000) :
    Ret 94 [.str n, .ref 0 0] [.cells [.str x, .int .i64 p, .int .i64 q, .int .i64 r]] (.bool (low x == low n), [.cells [.str x, .int .i64 p, .int .i64 q, .int .i64 r]]) := by
  refine M94 n x p q r ?_
  simp only [T94]
  refine evt_bind (ret62 x n (by omega) (by omega)) ?_
  exact evt_some _
theorem loop109 (x : Bs) (hx : x.length ≤ 1000000) (p q r : Int) (l : List Bs) (hl : l.length ≤ 1000000) (hv : ∀ n ∈ l, n.length ≤ 1000000) : ∀ (m i : Nat), l.length - i = m → i ≤ l.length →
    Evt (fun k j => L109 (callN cfg k) j (l.map V.str) (l.length : Nat) (i : Nat) x p q r) (.int .i64 (optI ((idxS x (l.drop i)).map (· + i))), [.cells [.str x, .int .i64 p, .int .i64 q, .int .i64 r]])
  | 0, i, h, hi => by
    refine N109_0 (l.map V.str) (l.length : Nat) (i : Nat) x p q r ?_
    have h1 : ¬ (((i : Nat) : Int) < ((l.length : Nat) : Int)) := by omega
    rw [List.drop_eq_nil_of_le (by omega)]
    simp only [T109_0, h1, decide_false, Bool.false_eq_true, if_false]
    exact evt_some _
  | m + 1, i, h, hi => by
    have hlt : i < l.length := by omega
    refine N109_0 (l.map V.str) (l.length : Nat) (i : Nat) x p q r ?_
    have h1 : (((i : Nat) : Int) < ((l.length : Nat) : Int)) := by omega
    have h2 : (0 : Int) ≤ (i : Nat) := by omega
    have hw : IntKind.wrap .i64 (((i : Nat) : Int) + 1) = ((i + 1 : Nat) : Int) := by rw [wrap64 (by omega) (by omega)]; omega
    have hg : (l.map V.str).getD i .bot = .str l[i] := by simp [List.getD, hlt]
    have hd : l.drop i = l[i] :: l.drop (i + 1) := List.drop_eq_getElem_cons hlt
    rw [hd, idxS]
    simp only [T109_0, h1, decide_true, if_true, chk_p h2, List.length_map, chk_t, Int.toNat_natCast, hg, getS_str, hw]
    refine evt_bind (ret94 l[i] x p q r (hv _ (List.getElem_mem hlt)) hx) ?_
    simp only [getB_bool, Ob.getC, List.headD_cons, List.tail_cons, getS_str, getI_int]
    cases hs : (low x == low l[i]) with
    | true =>
      simp only [if_true, Option.map_some, Nat.zero_add, optI]
      exact evt_some _
    | false =>
      simp only [Bool.false_eq_true, if_false]
      have := loop109 x hx p q r l hl hv m (i + 1) (by omega) (by omega)
      rw [Option.map_map]
      have he : ((fun y : Nat => y + i) ∘ fun y => y + 1) = fun y => y + (i + 1) := by funext y; simp only [Function.comp]; omega
      rw [he]
      exact this
theorem ret93 (x : Bs) (hx : x.length ≤ 1000000) (p q r : Int) (l : List Bs) (hl : l.length ≤ 1000000) (hv : ∀ n ∈ l, n.length ≤ 1000000) :
    Ret 93 [.lst 9 false (l.map V.str), .clo (Fn.func 94) [] [.ref 0 0]] [.cells [.str x, .int .i64 p, .int .i64 q, .int .i64 r]] (.bool (hasN l x), [.cells [.str x, .int .i64 p, .int .i64 q, .int .i64 r]]) := by
  refine M93 (l.map V.str) x p q r ?_
  simp only [T93]
  have h109 : Ret 109 [.lst 9 false (l.map V.str), .clo (Fn.func 94) [] [.ref 0 0]] [.cells [.str x, .int .i64 p, .int .i64 q, .int .i64 r]] (.int .i64 (optI (idxS x l)), [.cells [.str x, .int .i64 p, .int .i64 q, .int .i64 r]]) := by
    refine M109 (l.map V.str) x p q r ?_
    simp only [T109, List.length_map]
    have := loop109 x hx p q r l hl hv l.length 0 (by omega) (by omega)
    simpa using this
  refine evt_bind h109 ?_
  simp only [getI_int, Ob.getC, List.headD_cons, List.tail_cons, getS_str]
  rw [← idxS_has x l]
  exact evt_some _
def stepS (b : Bs) (names : List Bs) (but : Bool) (out : Bs) (f : Fd) : Bs :=
  if hasN names f.1 = but then out else if f.2.1 ≤ f.2.2.2 ∧ f.2.2.2 ≤ b.length then
    out ++ subF b f.2.1 f.2.2.2 ++ (if f.2.2.2 = f.2.1 ∨ b.getD (f.2.2.2 - 1) 0 ≠ 10 then [13, 10] else [])
  else out
def someF (b : Bs) (l : List Fd) (names : List Bs) (but : Bool) : Bs := l.foldl (stepS b names but) [] ++ [13, 10]
theorem stepS_len (b : Bs) (names : List Bs) (but : Bool) (out : Bs) (f : Fd) : (stepS b names but out f).length ≤ out.length + b.length + 2 := by
  have := subF_le b f.2.1 f.2.2.2
  unfold stepS
  split
  · omega
  · split
    · split
      · simp only [List.length_append, List.length_cons, List.length_nil]; omega
      · simp only [List.length_append, List.length_nil]; omega
    · omega
theorem loop72 (b : Bs) (hb : b.length ≤ 100000) (names : List Bs) (hn : names.length ≤ 1000000) (hv : ∀ n ∈ names, n.length ≤ 1000000) (but : Bool) (l : List Fd) (hl : l.length ≤ 100000) (hf : ∀ f ∈ l, f.1.length ≤ 1000000 ∧ f.2.2.2 ≤ 1000000) : ∀ (m i : Nat) (out : Bs), l.length - i = m → i ≤ l.length → out.length ≤ i * 100002 →
    Evt (fun k j => L72 (callN cfg k) j (ofBytes b) (names.map V.str) but (ofBytes out) (l.map fdV) (l.length : Nat) (i : Nat)) (.lst 5 false (ofBytes ((l.drop i).foldl (stepS b names but) out ++ [13, 10])), [])
  | 0, i, out, h, hi, ho => by
    refine N72_0 (ofBytes b) (names.map V.str) but (ofBytes out) (l.map fdV) (l.length : Nat) (i : Nat) ?_
    have h1 : ¬ (((i : Nat) : Int) < ((l.length : Nat) : Int)) := by omega
    have hm : i * 100002 ≤ 100000 * 100002 := Nat.mul_le_mul_right _ (by omega)
    have c1 : appOkS (ofBytes out) [13, 10] 2 = true := by
      have : (out.length + 2) * 2 ≤ 70368744177664 := by omega
      simp only [appOkS, ofBytes_length, List.length_cons, List.length_nil]
      exact decide_eq_true this
    rw [List.drop_eq_nil_of_le (by omega), List.foldl_nil]
    simp only [T72_0, h1, decide_false, Bool.false_eq_true, if_false, chk_b c1, ofBytes_append]
    exact evt_some _
  | m + 1, i, out, h, hi, ho => by
    have hlt : i < l.length := by omega
    refine N72_0 (ofBytes b) (names.map V.str) but (ofBytes out) (l.map fdV) (l.length : Nat) (i : Nat) ?_
    have h1 : (((i : Nat) : Int) < ((l.length : Nat) : Int)) := by omega
    have h2 : (0 : Int) ≤ (i : Nat) := by omega
    have hw : IntKind.wrap .i64 (((i : Nat) : Int) + 1) = ((i + 1 : Nat) : Int) := by rw [wrap64 (by omega) (by omega)]; omega
    have hm : i * 100002 ≤ 100000 * 100002 := Nat.mul_le_mul_right _ (by omega)
    have hd : l.drop i = l[i] :: l.drop (i + 1) := List.drop_eq_getElem_cons hlt
    have hg := getD_fd hlt
    obtain ⟨f1, f4⟩ := hf _ (List.getElem_mem hlt)
    have hsl := stepS_len b names but out l[i]
    have hnext := loop72 b hb names hn hv but l hl hf m (i + 1) (stepS b names but out l[i]) (by omega) (by omega) (by omega)
    rw [hd, List.foldl_cons]
    generalize l[i] = f at *
    obtain ⟨x, p, q, r⟩ := f
    simp only at f1 f4
    simp only [T72_0, h1, decide_true, if_true, chk_p h2, List.length_map, chk_t, Int.toNat_natCast, hg, fdV, cells_agg, List.headD_cons, List.tail_cons, getS_str, getI_int, hw, ofBytes_length]
    refine evt_bind (ret93 x f1 (p : Nat) (q : Nat) (r : Nat) names hn hv) ?_
    dsimp +instances only [getB_bool, Ob.getC, List.headD_cons, List.tail_cons, getI_int]
    by_cases hin : hasN names x = but
    · have e1 : (hasN names x == but) = true := by simp [hin]
      have e2 : stepS b names but out (x, p, q, r) = out := by unfold stepS; rw [if_pos hin]
      simp only [e1, Bool.true_eq_false, if_false]
      rw [e2] at hnext ⊢
      exact hnext
    · have e1 : (hasN names x == but) = false := by simp [hin]
      simp only [e1, if_true]
      refine evt_bind (ret73 (p : Nat) (r : Nat) (b.length : Nat)) ?_
      simp only [getB_bool]
      by_cases hwi : p ≤ r ∧ r ≤ b.length
      · have k1 : (0 : Int) ≤ (p : Nat) ∧ ((p : Nat) : Int) ≤ (r : Nat) ∧ ((r : Nat) : Int) ≤ (b.length : Nat) := by omega
        have k2 : (0 : Int) ≤ (r : Nat) := by omega
        have c1 : appOk (ofBytes out) (ofBytes (subF b p r)) 2 = true := app_ok (by have := subF_le b p r; rw [ofBytes_length, ofBytes_length]; omega)
        have c2 : appOkS (ofBytes (out ++ subF b p r)) [13, 10] 2 = true := by
          have hs := subF_le b p r
          have : ((out ++ subF b p r).length + 2) * 2 ≤ 70368744177664 := by rw [List.length_append]; omega
          simp only [appOkS, ofBytes_length, List.length_cons, List.length_nil]
          exact decide_eq_true this
        simp only [decide_eq_true k1, Bool.not_true, Bool.false_eq_true, if_false, chk_p k2, chk_p k1.2.2, chk_p k1.1, chk_p k1.2.1, Int.toNat_natCast, ofB_sub, chk_b c1, ofBytes_append]
        refine evt_opt (v := decide (r = p ∨ b.getD (r - 1) 0 ≠ 10)) ?_ ?_
        · by_cases hrp : r = p
          · subst hrp; simp
          · have g1 : (((r : Nat) : Int) == ((p : Nat) : Int)) = false := by
              have : ¬ (((r : Nat) : Int) = ((p : Nat) : Int)) := by omega
              simpa using this
            obtain ⟨z, rfl⟩ : ∃ z, r = z + 1 := ⟨r - 1, by omega⟩
            have hwz : IntKind.wrap .i64 (((z + 1 : Nat) : Int) - 1) = ((z : Nat) : Int) := by rw [wrap64 (by omega) (by omega)]; omega
            have hzl : z < b.length := by omega
            have g2 : (0 : Int) ≤ (z : Nat) := by omega
            have g3 : ((z : Nat) : Int) < ((b.length : Nat) : Int) := by omega
            have g4 : (((b[z].toNat : Nat) : Int) != (10 : Int)) = decide (b[z] ≠ 10) := by
              by_cases hc : b[z] = 10
              · rw [hc]; rfl
              · have : ¬ (((b[z].toNat : Nat) : Int) = 10) := fun e => hc (UInt8.toNat_inj.1 (show b[z].toNat = 10 by omega))
                simp [hc, this]
            simp only [g1, if_true, hwz, chk_p g2, chk_p g3, Int.toNat_natCast, getD_by hzl, getI_int, g4, hrp, false_or, Nat.add_sub_cancel, getD_at hzl]
        · have e2 : stepS b names but out (x, p, q, r) = out ++ subF b p r ++ (if r = p ∨ b.getD (r - 1) 0 ≠ 10 then [13, 10] else []) := by
            unfold stepS; rw [if_neg hin, if_pos hwi]
          by_cases hnl : r = p ∨ b.getD (r - 1) 0 ≠ 10
          · rw [e2, if_pos hnl] at hnext ⊢
            simp only [decide_eq_true hnl, if_true, chk_b c2]
            exact hnext
          · rw [e2, if_neg hnl, List.append_nil] at hnext ⊢
            simp only [decide_eq_false hnl, Bool.false_eq_true, if_false]
            exact hnext
      · have k1 : ¬ ((0 : Int) ≤ (p : Nat) ∧ ((p : Nat) : Int) ≤ (r : Nat) ∧ ((r : Nat) : Int) ≤ (b.length : Nat)) := by omega
        have e2 : stepS b names but out (x, p, q, r) = out := by unfold stepS; rw [if_neg hin, if_neg hwi]
        simp only [decide_eq_false k1, Bool.not_false, if_true]
        rw [e2] at hnext ⊢
        exact hnext
theorem ret72 (b : Bs) (hb : b.length ≤ 100000) (names : List Bs) (hn : names.length ≤ 1000000) (hv : ∀ n ∈ names, n.length ≤ 1000000) (but : Bool) (l : List Fd) (hl : l.length ≤ 100000) (hf : ∀ f ∈ l, f.1.length ≤ 1000000 ∧ f.2.2.2 ≤ 1000000) :
    Ret 72 [.lst 5 false (ofBytes b), .lst 109 false (l.map fdV), .lst 9 false (names.map V.str), .bool but] [] (.lst 5 false (ofBytes (someF b l names but)), []) := by
  refine M72 (ofBytes b) (l.map fdV) (names.map V.str) but ?_
  simp only [T72, List.length_map]
  have := loop72 b hb names hn hv but l hl hf l.length 0 [] (by omega) (by omega) (by simp)
  rw [List.drop_zero] at this
  exact this
end Go.Proofs.YtemgbdncidgoiaaDoor
end
section
namespace Go.Proofs.YtemgbdncidgoiaaDoor
open Go.Ev Go
def Pt.kd : Pt → Nat | .mk k _ _ _ _ _ => k
def Pt.hd : Pt → Nat × Nat | .mk _ h _ _ _ _ => h
def Pt.bd : Pt → Nat × Nat | .mk _ _ b _ _ _ => b
def Pt.ks : Pt → List Pt | .mk _ _ _ l _ _ => l
def Pt.cs : Pt → List (Nat × Nat) | .mk _ _ _ _ c _ => c
def Pt.en : Pt → Nat × Nat | .mk _ _ _ _ _ e => e
def zeroP : Pt := leafP 0 0 0
theorem part_agg (p : Pt) : V.agg [.int .i64 (p.kd : Nat), .int .i64 (p.hd.1 : Nat), .int .i64 (p.hd.2 : Nat), .int .i64 (p.bd.1 : Nat), .int .i64 (p.bd.2 : Nat), .lst 28 false (p.ks.map partV), .lst 24 false (p.cs.map cutV), .int .i64 (p.en.1 : Nat), .int .i64 (p.en.2 : Nat)] = partV p := by
  cases p; rw [partV, partVL_eq]; rfl
theorem cells_part (p : Pt) : V.cells (partV p) = [.int .i64 (p.kd : Nat), .int .i64 (p.hd.1 : Nat), .int .i64 (p.hd.2 : Nat), .int .i64 (p.bd.1 : Nat), .int .i64 (p.bd.2 : Nat), .lst 28 false (p.ks.map partV), .lst 24 false (p.cs.map cutV), .int .i64 (p.en.1 : Nat), .int .i64 (p.en.2 : Nat)] := by
  rw [← part_agg]; rfl
theorem getD_ks {l : List Pt} {i : Nat} (h : i < l.length) : (l.map partV).getD i .bot = partV (l.getD i zeroP) := by simp [List.getD, h]
theorem cnt_mem : ∀ {l : List Pt} {q : Pt}, q ∈ l → cntF q ≤ cntL l
  | p :: r, q, h => by
    rw [cntL]
    rcases List.mem_cons.1 h with rfl | h
    · omega
    · have := cnt_mem h; omega
theorem cnt_ks (p : Pt) : cntF p = 1 + cntL p.ks := by cases p; rw [cntF]; rfl
theorem getD_mem {l : List Pt} {i : Nat} (h : i < l.length) : l.getD i zeroP ∈ l := by
  have : l.getD i zeroP = l[i] := by simp [List.getD, h]
  rw [this]; exact List.getElem_mem h
def belowF (p : Pt) (n : Int) : Option Pt := if p.kd = 1 then (if n < 1 ∨ (p.ks.length : Int) < n then none else some (p.ks.getD (n.toNat - 1) zeroP)) else if n = 1 then some p else none
def toldP (o : Option Pt) : V := .tup [partV (o.getD zeroP), .bool o.isSome]
theorem told_none : toldP none = .tup [.agg [.int .i64 0, .int .i64 0, .int .i64 0, .int .i64 0, .int .i64 0, .lst 28 false [], .lst 24 false [], .int .i64 0, .int .i64 0], .bool false] := by
  unfold toldP zeroP
  rw [show (none : Option Pt).getD (leafP 0 0 0) = leafP 0 0 0 from rfl, leaf_V]; rfl
theorem told_some (p : Pt) : toldP (some p) = .tup [partV p, .bool true] := rfl
theorem ret50 (p : Pt) (hc : cntF p ≤ 1000000) (n : Int) : Ret 50 [partV p, .int .i64 n] [] (toldP (belowF p n), []) := by
  have hkl := cntL_len p.ks
  have hk := cnt_ks p
  rw [← part_agg p]
  refine M50 (p.kd : Nat) (p.hd.1 : Nat) (p.hd.2 : Nat) (p.bd.1 : Nat) (p.bd.2 : Nat) (p.ks.map partV) (p.cs.map cutV) (p.en.1 : Nat) (p.en.2 : Nat) n ?_
  simp only [T50, List.length_map]
  unfold belowF
  by_cases hk1 : p.kd = 1
  · have g1 : (((p.kd : Nat) : Int) == (1 : Int)) = true := by rw [hk1]; rfl
    rw [if_pos hk1]
    simp only [g1, if_true]
    by_cases hn : n < 1 ∨ (p.ks.length : Int) < n
    · rw [if_pos hn, told_none]
      refine evt_opt (v := true) ?_ ?_
      · by_cases h1 : n < 1
        · simp [h1]
        · have h2 : n > ((p.ks.length : Nat) : Int) := by omega
          simp [h1, h2]
      · simp only [if_true]; exact evt_some _
    · rw [if_neg hn]
      have e1 : ¬ (n < 1) := by omega
      have e2 : ¬ (n > ((p.ks.length : Nat) : Int)) := by omega
      obtain ⟨N, rfl⟩ : ∃ N : Nat, n = ((N + 1 : Nat) : Int) := ⟨n.toNat - 1, by omega⟩
      have hlt : N < p.ks.length := by omega
      have hw : IntKind.wrap .i64 (((N + 1 : Nat) : Int) - 1) = ((N : Nat) : Int) := by rw [wrap64 (by omega) (by omega)]; omega
      have h2 : (0 : Int) ≤ (N : Nat) := by omega
      have h3 : ((N : Nat) : Int) < ((p.ks.length : Nat) : Int) := by omega
      refine evt_opt (v := false) ?_ ?_
      · simp only [e1, e2, decide_false, if_true]
      · simp only [Bool.false_eq_true, if_false, hw, chk_p h2, chk_p h3, Int.toNat_natCast, getD_ks hlt, eta_part, Nat.add_sub_cancel, told_some]
        exact evt_some _
  · have g1 : (((p.kd : Nat) : Int) == (1 : Int)) = false := by
      have : ¬ (((p.kd : Nat) : Int) = 1) := by omega
      simpa using this
    rw [if_neg hk1]
    simp only [g1, Bool.false_eq_true, if_false, part_agg]
    by_cases hn : n = 1
    · have g2 : (n == (1 : Int)) = true := by simp [hn]
      rw [if_pos hn, told_some]
      simp only [g2, if_true]
      exact evt_some _
    · have g2 : (n == (1 : Int)) = false := by simp [hn]
      rw [if_neg hn, told_none]
      simp only [g2, Bool.false_eq_true, if_false]
      exact evt_some _
def stepP (p : Pt) : Option Pt := if p.kd = 2 ∧ 0 < p.ks.length then some (p.ks.getD 0 zeroP) else if p.kd = 1 then some p else none
def findR : Pt → List Int → Option Pt
  | p, [] => some p
  | p, n :: r => match stepP p with
    | none => none
    | some q => match belowF q n with
      | none => none
      | some q' => findR q' r
def findP (p : Pt) : List Int → Option Pt
  | [] => none
  | n :: r => match belowF p n with
    | none => none
    | some q => findR q r
theorem below_cnt {p q : Pt} {n : Int} (h : belowF p n = some q) : cntF q ≤ cntF p := by
  unfold belowF at h
  split at h
  · split at h
    · cases h
    · rename_i hn
      cases h
      have := cnt_mem (getD_mem (l := p.ks) (i := n.toNat - 1) (by omega))
      rw [cnt_ks p]; omega
  · split at h
    · cases h; omega
    · cases h
theorem step_cnt {p q : Pt} (h : stepP p = some q) : cntF q ≤ cntF p := by
  unfold stepP at h
  split at h
  · rename_i hk
    cases h
    have := cnt_mem (getD_mem (l := p.ks) (i := 0) hk.2)
    rw [cnt_ks p]; omega
  · split at h
    · cases h; omega
    · cases h
noncomputable def LA (call : FuncId → Go.Ev.Fun) (j : Nat) (is : Bool) (path : List Int) (i : Int) (p : Pt) : Option (V × List Ob) :=
  L36 call j is (path.map pathV) (path.length : Nat) i (p.kd : Nat) (p.hd.1 : Nat) (p.hd.2 : Nat) (p.bd.1 : Nat) (p.bd.2 : Nat) (p.ks.map partV) (p.cs.map cutV) (p.en.1 : Nat) (p.en.2 : Nat) 0 0 0 0 0 [] [] 0 0
theorem getD_path {l : List Int} {i : Nat} (h : i < l.length) : (l.map pathV).getD i .bot = .int .i64 l[i] := by simp [List.getD, h, pathV]
theorem loop36 (path : List Int) (hpl : path.length ≤ 1000000) : ∀ (m i : Nat) (p : Pt), path.length - i = m → i ≤ path.length → 0 < i → cntF p ≤ 1000000 →
    Evt (fun k j => LA (callN cfg k) j true path (i : Nat) p) (toldP (findR p (path.drop i)), [])
  | 0, i, p, h, hi, h0, hc => by
    refine N36_0 true (path.map pathV) (path.length : Nat) (i : Nat) (p.kd : Nat) (p.hd.1 : Nat) (p.hd.2 : Nat) (p.bd.1 : Nat) (p.bd.2 : Nat) (p.ks.map partV) (p.cs.map cutV) (p.en.1 : Nat) (p.en.2 : Nat) 0 0 0 0 0 [] [] 0 0 ?_
    have h1 : ¬ (((i : Nat) : Int) < ((path.length : Nat) : Int)) := by omega
    rw [List.drop_eq_nil_of_le (by omega), findR, told_some]
    simp only [T36_0, h1, decide_false, Bool.false_eq_true, if_false, Bool.not_true, part_agg]
    exact evt_some _
  | m + 1, i, p, h, hi, h0, hc => by
    have hlt : i < path.length := by omega
    refine N36_0 true (path.map pathV) (path.length : Nat) (i : Nat) (p.kd : Nat) (p.hd.1 : Nat) (p.hd.2 : Nat) (p.bd.1 : Nat) (p.bd.2 : Nat) (p.ks.map partV) (p.cs.map cutV) (p.en.1 : Nat) (p.en.2 : Nat) 0 0 0 0 0 [] [] 0 0 ?_
    have h1 : (((i : Nat) : Int) < ((path.length : Nat) : Int)) := by omega
    have h2 : (0 : Int) ≤ (i : Nat) := by omega
    have h3 : ((i : Nat) : Int) > 0 := by omega
    have hw : IntKind.wrap .i64 (((i : Nat) : Int) + 1) = ((i + 1 : Nat) : Int) := by rw [wrap64 (by omega) (by omega)]; omega
    have hd : path.drop i = path[i] :: path.drop (i + 1) := List.drop_eq_getElem_cons hlt
    rw [hd, findR]
    simp only [T36_0, h1, decide_true, if_true, chk_p h2, List.length_map, chk_t, h3, Int.toNat_natCast, getD_path hlt, getI_int, hw, part_agg]
    by_cases hk : p.kd = 2 ∧ 0 < p.ks.length
    · have g1 : (((p.kd : Nat) : Int) == (2 : Int)) = true := by rw [hk.1]; rfl
      have g2 : ((p.ks.length : Nat) : Int) > 0 := by omega
      have g3 : (0 : Int) < ((p.ks.length : Nat) : Int) := by omega
      have hs : stepP p = some (p.ks.getD 0 zeroP) := by unfold stepP; rw [if_pos hk]
      have hsc := step_cnt hs
      refine evt_opt (v := true) (by simp only [g1, g2, if_true, decide_true]) ?_
      simp only [if_true, chk_p (Int.le_refl 0), chk_p g3, Int.toNat_zero, getD_ks hk.2, eta_part, hs]
      refine evt_bind (ret50 (p.ks.getD 0 zeroP) (by omega) path[i]) ?_
      cases hbl : belowF (p.ks.getD 0 zeroP) path[i] with
      | none =>
        simp only [told_none, getT_tup, List.headD_cons, List.tail_cons, getB_bool, Bool.not_false, if_true]
        exact evt_some _
      | some q =>
        have hqc := below_cnt hbl
        simp only [told_some, getT_tup, List.headD_cons, List.tail_cons, getB_bool, Bool.not_true, Bool.false_eq_true, if_false, cells_part, getI_int, getL_lst]
        exact loop36 path hpl m (i + 1) q (by omega) (by omega) (by omega) (by omega)
    · refine evt_opt (v := false) ?_ ?_
      · by_cases g : p.kd = 2
        · have g1 : (((p.kd : Nat) : Int) == (2 : Int)) = true := by rw [g]; rfl
          have g2 : ¬ (((p.ks.length : Nat) : Int) > 0) := by omega
          simp only [g1, g2, if_true, decide_false]
        · have g1 : (((p.kd : Nat) : Int) == (2 : Int)) = false := by
            have : ¬ (((p.kd : Nat) : Int) = 2) := by omega
            simpa using this
          simp only [g1, Bool.false_eq_true, if_false]
      · simp only [Bool.false_eq_true, if_false]
        by_cases hk1 : p.kd = 1
        · have g1 : (((p.kd : Nat) : Int) != (1 : Int)) = false := by rw [hk1]; rfl
          have hs : stepP p = some p := by unfold stepP; rw [if_neg hk, if_pos hk1]
          simp only [g1, Bool.false_eq_true, if_false, hs]
          refine evt_bind (ret50 p hc path[i]) ?_
          cases hbl : belowF p path[i] with
          | none =>
            simp only [told_none, getT_tup, List.headD_cons, List.tail_cons, getB_bool, Bool.not_false, if_true]
            exact evt_some _
          | some q =>
            have hqc := below_cnt hbl
            simp only [told_some, getT_tup, List.headD_cons, List.tail_cons, getB_bool, Bool.not_true, Bool.false_eq_true, if_false, cells_part, getI_int, getL_lst]
            exact loop36 path hpl m (i + 1) q (by omega) (by omega) (by omega) (by omega)
        · have g1 : (((p.kd : Nat) : Int) != (1 : Int)) = true := by
            have : ¬ (((p.kd : Nat) : Int) = 1) := by omega
            simpa using this
          have hs : stepP p = none := by unfold stepP; rw [if_neg hk, if_neg hk1]
          simp only [g1, if_true, Bool.not_false, hs, told_none]
          exact evt_some _
theorem ret36 (p : Pt) (hc : cntF p ≤ 1000000) (path : List Int) (hpl : path.length ≤ 1000000) : Ret 36 [partV p, .lst 3 false (path.map pathV)] [] (toldP (findP p path), []) := by
  rw [← part_agg p]
  refine M36 (p.kd : Nat) (p.hd.1 : Nat) (p.hd.2 : Nat) (p.bd.1 : Nat) (p.bd.2 : Nat) (p.ks.map partV) (p.cs.map cutV) (p.en.1 : Nat) (p.en.2 : Nat) (path.map pathV) ?_
  simp only [T36, List.length_map]
  refine N36_0 false (path.map pathV) (path.length : Nat) 0 (p.kd : Nat) (p.hd.1 : Nat) (p.hd.2 : Nat) (p.bd.1 : Nat) (p.bd.2 : Nat) (p.ks.map partV) (p.cs.map cutV) (p.en.1 : Nat) (p.en.2 : Nat) 0 0 0 0 0 [] [] 0 0 ?_
  cases path with
  | nil =>
    have h1 : ¬ ((0 : Int) < ((([] : List Int).length : Nat) : Int)) := by simp
    rw [findP, told_none]
    simp only [T36_0, h1, decide_false, Bool.false_eq_true, if_false, Bool.not_false, if_true]
    exact evt_some _
  | cons n r =>
    have h1 : ((0 : Int) < (((n :: r).length : Nat) : Int)) := by simp only [List.length_cons]; omega
    have h3 : ¬ ((0 : Int) > 0) := by omega
    have hw : IntKind.wrap .i64 ((0 : Int) + 1) = ((0 + 1 : Nat) : Int) := by rw [wrap64 (by omega) (by omega)]; rfl
    have hg : ((n :: r).map pathV).getD 0 .bot = .int .i64 n := rfl
    rw [findP]
    simp only [T36_0, h1, decide_true, if_true, chk_p (Int.le_refl 0), List.length_map, chk_t, h3, decide_false, Bool.false_eq_true, if_false, Int.toNat_zero, hg, getI_int, hw, part_agg]
    refine evt_bind (ret50 p hc n) ?_
    cases hbl : belowF p n with
    | none =>
      simp only [told_none, getT_tup, List.headD_cons, List.tail_cons, getB_bool, Bool.not_false, if_true]
      exact evt_some _
    | some q =>
      have hqc := below_cnt hbl
      simp only [told_some, getT_tup, List.headD_cons, List.tail_cons, getB_bool, Bool.not_true, Bool.false_eq_true, if_false, cells_part, getI_int, getL_lst]
      exact loop36 (n :: r) hpl r.length 1 q (by simp) (by simp) (by omega) (by omega)
def messageF (b : Bs) (p : Pt) (s : Sp) : Bs :=
  if s.what = 0 then bytesF b p.hd.1 p.bd.2 else if s.what = 1 then bytesF b p.hd.1 p.hd.2 else if s.what = 4 then bytesF b p.bd.1 p.bd.2 else
  if s.what = 3 then someF b (headF b (p.hd.1 : Nat) (p.hd.2 : Nat)).1 s.names true else if s.what = 2 then someF b (headF b (p.hd.1 : Nat) (p.hd.2 : Nat)).1 s.names false else []
def allF (b : Bs) (p : Pt) (s : Sp) : Bs :=
  if checkF s then (if s.path.length = 0 then messageF b p s else match findP p s.path with
    | none => []
    | some q => if s.what = 0 then bytesF b q.bd.1 q.bd.2 else if s.what = 5 then bytesF b q.hd.1 q.hd.2 else if q.kd = 2 ∧ 0 < q.ks.length then messageF b (q.ks.getD 0 zeroP) s else [])
  else []
def cutB (o : Bs) (fr many : Int) : Bs := if fr < 0 ∨ (o.length : Int) < fr ∨ many < 1 then [] else subF o fr.toNat (fr.toNat + min many.toNat (o.length - fr.toNat))
def getsF (b : Bs) (p : Pt) (s : Sp) : Bs := if s.cut then cutB (allF b p s) s.fr s.many else allF b p s
def SpOk (s : Sp) : Prop := s.names.length ≤ 1000000 ∧ (∀ n ∈ s.names, n.length ≤ 1000000) ∧ s.path.length ≤ 1000000
theorem beq_dec (x y : Int) : (x == y) = decide (x = y) := by by_cases h : x = y <;> simp [h]
theorem ret52 (b : Bs) (hb : b.length ≤ 100000) (p : Pt) (s : Sp) (hs : SpOk s) : Ret 52 [.lst 5 false (ofBytes b), partV p, specV s] [] (.lst 5 false (ofBytes (messageF b p s)), []) := by
  rw [← part_agg p]
  refine M52 (ofBytes b) (p.kd : Nat) (p.hd.1 : Nat) (p.hd.2 : Nat) (p.bd.1 : Nat) (p.bd.2 : Nat) (p.ks.map partV) (p.cs.map cutV) (p.en.1 : Nat) (p.en.2 : Nat) (s.path.map pathV) s.what (s.names.map V.str) s.cut s.fr s.many ?_
  obtain ⟨k1, k2⟩ := headF_ok b (p.hd.1 : Nat) (p.hd.2 : Nat)
  have k3 := headF_in b p.hd.1 p.hd.2
  simp only [T52, beq_dec]
  unfold messageF
  by_cases w0 : s.what = 0
  · simp only [w0, decide_true, if_true]
    refine evt_bind (ret53 b (by omega) _ _) ?_
    simp only [getL_lst]; exact evt_some _
  by_cases w1 : s.what = 1
  · simp only [w0, w1, decide_true, decide_false, Bool.false_eq_true, if_true, if_false]
    refine evt_bind (ret53 b (by omega) _ _) ?_
    simp only [getL_lst]; exact evt_some _
  by_cases w4 : s.what = 4
  · simp only [w0, w1, w4, decide_true, decide_false, Bool.false_eq_true, if_true, if_false]
    refine evt_bind (ret53 b (by omega) _ _) ?_
    simp only [getL_lst]; exact evt_some _
  by_cases w3 : s.what = 3
  · simp only [w0, w1, w4, w3, decide_true, decide_false, Bool.false_eq_true, if_true, if_false]
    refine evt_bind (ret39 b (by omega) (p.hd.1 : Nat) (p.hd.2 : Nat)) ?_
    simp only [getT_tup, List.headD_cons, getL_lst]
    refine evt_bind (ret72 b hb s.names hs.1 hs.2.1 true _ (by omega) (fun f hf => ⟨by have := k1 f hf; omega, by have := k3 f hf; omega⟩)) ?_
    simp only [getL_lst]; exact evt_some _
  by_cases w2 : s.what = 2
  · simp only [w0, w1, w4, w3, w2, decide_true, decide_false, Bool.false_eq_true, if_true, if_false]
    refine evt_bind (ret39 b (by omega) (p.hd.1 : Nat) (p.hd.2 : Nat)) ?_
    simp only [getT_tup, List.headD_cons, getL_lst]
    refine evt_bind (ret72 b hb s.names hs.1 hs.2.1 false _ (by omega) (fun f hf => ⟨by have := k1 f hf; omega, by have := k3 f hf; omega⟩)) ?_
    simp only [getL_lst]; exact evt_some _
  · simp only [w0, w1, w4, w3, w2, decide_false, Bool.false_eq_true, if_false]
    exact evt_some _
theorem spec_agg (s : Sp) : V.agg [.lst 3 false (s.path.map pathV), .int .i64 s.what, .lst 9 false (s.names.map V.str), .bool s.cut, .int .i64 s.fr, .int .i64 s.many] = specV s := rfl
theorem ret37 (b : Bs) (hb : b.length ≤ 100000) (p : Pt) (hc : cntF p ≤ 1000000) (s : Sp) (hs : SpOk s) : Ret 37 [.lst 5 false (ofBytes b), partV p, specV s] [] (.lst 5 false (ofBytes (allF b p s)), []) := by
  rw [← part_agg p]
  refine M37 (ofBytes b) (p.kd : Nat) (p.hd.1 : Nat) (p.hd.2 : Nat) (p.bd.1 : Nat) (p.bd.2 : Nat) (p.ks.map partV) (p.cs.map cutV) (p.en.1 : Nat) (p.en.2 : Nat) (s.path.map pathV) s.what (s.names.map V.str) s.cut s.fr s.many ?_
  simp only [T37, part_agg, spec_agg, List.length_map]
  refine evt_bind (ret51 s hs.1 hs.2.1 hs.2.2) ?_
  unfold allF
  cases hck : checkF s with
  | false =>
    have g : ((1 : Int) != (0 : Int)) = true := rfl
    simp only [Bool.false_eq_true, if_false, getI_int, g, if_true]
    exact evt_some _
  | true =>
    have g : ((0 : Int) != (0 : Int)) = false := rfl
    simp only [if_true, getI_int, g, Bool.false_eq_true, if_false]
    by_cases hp0 : s.path.length = 0
    · have g1 : (((s.path.length : Nat) : Int) == (0 : Int)) = true := by rw [hp0]; rfl
      simp only [g1, if_true, if_pos hp0]
      refine evt_bind (ret52 b hb p s hs) ?_
      simp only [getL_lst]; exact evt_some _
    · have g1 : (((s.path.length : Nat) : Int) == (0 : Int)) = false := by
        have : ¬ (((s.path.length : Nat) : Int) = 0) := by omega
        simpa using this
      simp only [g1, Bool.false_eq_true, if_false, if_neg hp0]
      refine evt_bind (ret36 p hc s.path hs.2.2) ?_
      cases hf : findP p s.path with
      | none =>
        simp only [told_none, getT_tup, List.headD_cons, List.tail_cons, getB_bool, Bool.not_false, if_true]
        exact evt_some _
      | some q =>
        simp only [told_some, getT_tup, List.headD_cons, List.tail_cons, getB_bool, Bool.not_true, Bool.false_eq_true, if_false, cells_part, getI_int, getL_lst, beq_dec, List.length_map]
        by_cases w0 : s.what = 0
        · simp only [w0, decide_true, if_true]
          refine evt_bind (ret53 b (by omega) _ _) ?_
          simp only [getL_lst]; exact evt_some _
        by_cases w5 : s.what = 5
        · simp only [w0, w5, decide_true, decide_false, Bool.false_eq_true, if_true, if_false]
          refine evt_bind (ret53 b (by omega) _ _) ?_
          simp only [getL_lst]; exact evt_some _
        · simp only [w0, w5, decide_false, Bool.false_eq_true, if_false]
          by_cases hk : q.kd = 2 ∧ 0 < q.ks.length
          · have g2 : ((q.ks.length : Nat) : Int) > 0 := by omega
            have g3 : (0 : Int) < ((q.ks.length : Nat) : Int) := by omega
            have g4 : (((q.kd : Nat) : Int) = 2) := by omega
            rw [if_pos hk]
            refine evt_opt (v := true) (by simp only [g4, g2, if_true, decide_true]) ?_
            simp only [if_true, chk_p (Int.le_refl 0), chk_p g3, Int.toNat_zero, getD_ks hk.2, eta_part]
            refine evt_bind (ret52 b hb _ s hs) ?_
            simp only [getL_lst]; exact evt_some _
          · rw [if_neg hk]
            refine evt_opt (v := false) ?_ ?_
            · by_cases g : q.kd = 2
              · have g1 : (((q.kd : Nat) : Int) = 2) := by omega
                have g2 : ¬ (((q.ks.length : Nat) : Int) > 0) := by omega
                simp only [g1, g2, if_true, decide_true, decide_false]
              · have g1 : ¬ (((q.kd : Nat) : Int) = 2) := by omega
                simp only [g1, decide_false, Bool.false_eq_true, if_false]
            · simp only [Bool.false_eq_true, if_false]
              exact evt_some _
theorem ret38 (o : Bs) (ho : o.length ≤ 1000000000) (fr many : Int) : Ret 38 [.lst 5 false (ofBytes o), .int .i64 fr, .int .i64 many] [] (.lst 5 false (ofBytes (cutB o fr many)), []) := by
  refine M38 (ofBytes o) fr many ?_
  simp only [T38, ofBytes_length]
  unfold cutB
  by_cases h : fr < 0 ∨ (o.length : Int) < fr ∨ many < 1
  · rw [if_pos h]
    refine evt_opt (v := true) ?_ ?_
    · by_cases h1 : fr < 0
      · simp [h1]
      · by_cases h2 : fr > ((o.length : Nat) : Int)
        · simp [h1, h2]
        · have h3 : many < 1 := by omega
          simp [h1, h2, h3]
    · simp only [if_true]; exact evt_some _
  · rw [if_neg h]
    have e1 : ¬ (fr < 0) := by omega
    have e2 : ¬ (fr > ((o.length : Nat) : Int)) := by omega
    have e3 : ¬ (many < 1) := by omega
    obtain ⟨F, rfl⟩ : ∃ F : Nat, fr = F := ⟨fr.toNat, by omega⟩
    obtain ⟨M, rfl⟩ : ∃ M : Nat, many = M := ⟨many.toNat, by omega⟩
    have hw1 : IntKind.wrap .i64 (((o.length : Nat) : Int) - ((F : Nat) : Int)) = ((o.length - F : Nat) : Int) := by rw [wrap64 (by omega) (by omega)]; omega
    have hmin : (if ((o.length - F : Nat) : Int) < ((M : Nat) : Int) then ((o.length - F : Nat) : Int) else ((M : Nat) : Int)) = ((min M (o.length - F) : Nat) : Int) := by split <;> omega
    have hw2 : IntKind.wrap .i64 (((F : Nat) : Int) + ((min M (o.length - F) : Nat) : Int)) = ((F + min M (o.length - F) : Nat) : Int) := by rw [wrap64 (by omega) (by omega)]; omega
    have k1 : (0 : Int) ≤ ((F + min M (o.length - F) : Nat) : Int) := by omega
    have k2 : ((F + min M (o.length - F) : Nat) : Int) ≤ ((o.length : Nat) : Int) := by omega
    have k3 : (0 : Int) ≤ ((F : Nat) : Int) := by omega
    have k4 : ((F : Nat) : Int) ≤ ((F + min M (o.length - F) : Nat) : Int) := by omega
    refine evt_opt (v := false) (by simp only [e1, e2, e3, decide_false, if_true]) ?_
    simp only [Bool.false_eq_true, if_false, hw1, hmin, hw2, chk_p k1, chk_p k2, chk_p k3, chk_p k4, Int.toNat_natCast, ofB_sub]
    refine evt_bind (ret54 _ (by have := subF_le o F (F + min M (o.length - F)); omega)) ?_
    simp only [getL_lst]; exact evt_some _
theorem messageF_le (b : Bs) (p : Pt) (s : Sp) : (messageF b p s).length ≤ b.length + (b.length + 2) * b.length + 2 := by
  have hsome : ∀ but, (someF b (headF b (p.hd.1 : Nat) (p.hd.2 : Nat)).1 s.names but).length ≤ (b.length + 2) * b.length + 2 := by
    intro but
    obtain ⟨_, k2⟩ := headF_ok b (p.hd.1 : Nat) (p.hd.2 : Nat)
    have hf : ∀ (l : List Fd) (out : Bs), (l.foldl (stepS b s.names but) out).length ≤ out.length + (b.length + 2) * l.length := by
      intro l
      induction l with
      | nil => intro out; simp
      | cons f r ih =>
        intro out
        have h1 := ih (stepS b s.names but out f)
        have h2 := stepS_len b s.names but out f
        rw [List.foldl_cons, List.length_cons, Nat.mul_add, Nat.mul_one]
        omega
    have h1 := hf (headF b (p.hd.1 : Nat) (p.hd.2 : Nat)).1 []
    have h2 : (b.length + 2) * (headF b (p.hd.1 : Nat) (p.hd.2 : Nat)).1.length ≤ (b.length + 2) * b.length := Nat.mul_le_mul_left _ k2
    unfold someF
    rw [List.length_append]
    simp only [List.length_nil, List.length_cons] at h1 ⊢
    omega
  unfold messageF
  split
  · have := bytesF_le b p.hd.1 p.bd.2; omega
  split
  · have := bytesF_le b p.hd.1 p.hd.2; omega
  split
  · have := bytesF_le b p.bd.1 p.bd.2; omega
  split
  · have := hsome true; omega
  split
  · have := hsome false; omega
  · simp
theorem allF_le (b : Bs) (p : Pt) (s : Sp) : (allF b p s).length ≤ b.length + (b.length + 2) * b.length + 2 := by
  unfold allF
  split
  · split
    · exact messageF_le b p s
    · split
      · simp
      · rename_i q _
        split
        · have := bytesF_le b q.bd.1 q.bd.2; omega
        split
        · have := bytesF_le b q.hd.1 q.hd.2; omega
        split
        · exact messageF_le b _ s
        · simp
  · simp
theorem ret28 (b : Bs) (hb : b.length ≤ 3000) (p : Pt) (hc : cntF p ≤ 1000000) (s : Sp) (hs : SpOk s) : Ret 28 [.lst 5 false (ofBytes b), partV p, specV s] [] (.lst 5 false (ofBytes (getsF b p s)), []) := by
  have hle := allF_le b p s
  have hle2 : (b.length + 2) * b.length ≤ 3002 * 3000 := Nat.mul_le_mul (by omega) hb
  rw [← part_agg p]
  refine M28 (ofBytes b) (p.kd : Nat) (p.hd.1 : Nat) (p.hd.2 : Nat) (p.bd.1 : Nat) (p.bd.2 : Nat) (p.ks.map partV) (p.cs.map cutV) (p.en.1 : Nat) (p.en.2 : Nat) (s.path.map pathV) s.what (s.names.map V.str) s.cut s.fr s.many ?_
  simp only [T28, part_agg, spec_agg]
  refine evt_bind (ret37 b (by omega) p hc s hs) ?_
  simp only [getL_lst]
  unfold getsF
  cases s.cut with
  | true =>
    simp only [if_true]
    refine evt_bind (ret38 (allF b p s) (by omega) s.fr s.many) ?_
    simp only [getL_lst]; exact evt_some _
  | false =>
    simp only [Bool.false_eq_true, if_false]
    exact evt_some _
end Go.Proofs.YtemgbdncidgoiaaDoor
end
section
namespace Go.Proofs.YtemgbdncidgoiaaDoor
open Go.Ev Go
open List (headD tail getD length drop take)
open V (getI getL getT getS getB)
set_option maxRecDepth 100000
def T27 (call : FuncId → Fun) : Option (V × List Ob) :=
 Option.bind (call 15 [(V.lst 5 false [(V.int .u8 (67 : Int)), (V.int .u8 (111 : Int)), (V.int .u8 (110 : Int)), (V.int .u8 (116 : Int)), (V.int .u8 (101 : Int)), (V.int .u8 (110 : Int)), (V.int .u8 (116 : Int)), (V.int .u8 (45 : Int)), (V.int .u8 (84 : Int)), (V.int .u8 (121 : Int)), (V.int .u8 (112 : Int)), (V.int .u8 (101 : Int)), (V.int .u8 (58 : Int)), (V.int .u8 (32 : Int)), (V.int .u8 (109 : Int)), (V.int .u8 (117 : Int)), (V.int .u8 (108 : Int)), (V.int .u8 (116 : Int)), (V.int .u8 (105 : Int)), (V.int .u8 (112 : Int)), (V.int .u8 (97 : Int)), (V.int .u8 (114 : Int)), (V.int .u8 (116 : Int)), (V.int .u8 (47 : Int)), (V.int .u8 (109 : Int)), (V.int .u8 (105 : Int)), (V.int .u8 (120 : Int)), (V.int .u8 (101 : Int)), (V.int .u8 (100 : Int)), (V.int .u8 (59 : Int)), (V.int .u8 (32 : Int)), (V.int .u8 (98 : Int)), (V.int .u8 (111 : Int)), (V.int .u8 (117 : Int)), (V.int .u8 (110 : Int)), (V.int .u8 (100 : Int)), (V.int .u8 (97 : Int)), (V.int .u8 (114 : Int)), (V.int .u8 (121 : Int)), (V.int .u8 (61 : Int)), (V.int .u8 (98 : Int)), (V.int .u8 (13 : Int)), (V.int .u8 (10 : Int)), (V.int .u8 (13 : Int)), (V.int .u8 (10 : Int)), (V.int .u8 (112 : Int)), (V.int .u8 (114 : Int)), (V.int .u8 (101 : Int)), (V.int .u8 (13 : Int)), (V.int .u8 (10 : Int)), (V.int .u8 (45 : Int)), (V.int .u8 (45 : Int)), (V.int .u8 (98 : Int)), (V.int .u8 (13 : Int)), (V.int .u8 (10 : Int)), (V.int .u8 (13 : Int)), (V.int .u8 (10 : Int)), (V.int .u8 (111 : Int)), (V.int .u8 (110 : Int)), (V.int .u8 (101 : Int)), (V.int .u8 (13 : Int)), (V.int .u8 (10 : Int)), (V.int .u8 (45 : Int)), (V.int .u8 (45 : Int)), (V.int .u8 (98 : Int)), (V.int .u8 (13 : Int)), (V.int .u8 (10 : Int)), (V.int .u8 (67 : Int)), (V.int .u8 (111 : Int)), (V.int .u8 (110 : Int)), (V.int .u8 (116 : Int)), (V.int .u8 (101 : Int)), (V.int .u8 (110 : Int)), (V.int .u8 (116 : Int)), (V.int .u8 (45 : Int)), (V.int .u8 (84 : Int)), (V.int .u8 (121 : Int)), (V.int .u8 (112 : Int)), (V.int .u8 (101 : Int)), (V.int .u8 (58 : Int)), (V.int .u8 (32 : Int)), (V.int .u8 (109 : Int)), (V.int .u8 (101 : Int)), (V.int .u8 (115 : Int)), (V.int .u8 (115 : Int)), (V.int .u8 (97 : Int)), (V.int .u8 (103 : Int)), (V.int .u8 (101 : Int)), (V.int .u8 (47 : Int)), (V.int .u8 (114 : Int)), (V.int .u8 (102 : Int)), (V.int .u8 (99 : Int)), (V.int .u8 (56 : Int)), (V.int .u8 (50 : Int)), (V.int .u8 (50 : Int)), (V.int .u8 (13 : Int)), (V.int .u8 (10 : Int)), (V.int .u8 (13 : Int)), (V.int .u8 (10 : Int)), (V.int .u8 (83 : Int)), (V.int .u8 (117 : Int)), (V.int .u8 (98 : Int)), (V.int .u8 (106 : Int)), (V.int .u8 (101 : Int)), (V.int .u8 (99 : Int)), (V.int .u8 (116 : Int)), (V.int .u8 (58 : Int)), (V.int .u8 (32 : Int)), (V.int .u8 (115 : Int)), (V.int .u8 (13 : Int)), (V.int .u8 (10 : Int)), (V.int .u8 (13 : Int)), (V.int .u8 (10 : Int)), (V.int .u8 (116 : Int)), (V.int .u8 (119 : Int)), (V.int .u8 (111 : Int)), (V.int .u8 (13 : Int)), (V.int .u8 (10 : Int)), (V.int .u8 (45 : Int)), (V.int .u8 (45 : Int)), (V.int .u8 (98 : Int)), (V.int .u8 (45 : Int)), (V.int .u8 (45 : Int)), (V.int .u8 (13 : Int)), (V.int .u8 (10 : Int)), (V.int .u8 (112 : Int)), (V.int .u8 (111 : Int)), (V.int .u8 (115 : Int)), (V.int .u8 (116 : Int))])] []) fun z0 =>
 Option.bind (call 28 [(V.lst 5 false [(V.int .u8 (67 : Int)), (V.int .u8 (111 : Int)), (V.int .u8 (110 : Int)), (V.int .u8 (116 : Int)), (V.int .u8 (101 : Int)), (V.int .u8 (110 : Int)), (V.int .u8 (116 : Int)), (V.int .u8 (45 : Int)), (V.int .u8 (84 : Int)), (V.int .u8 (121 : Int)), (V.int .u8 (112 : Int)), (V.int .u8 (101 : Int)), (V.int .u8 (58 : Int)), (V.int .u8 (32 : Int)), (V.int .u8 (109 : Int)), (V.int .u8 (117 : Int)), (V.int .u8 (108 : Int)), (V.int .u8 (116 : Int)), (V.int .u8 (105 : Int)), (V.int .u8 (112 : Int)), (V.int .u8 (97 : Int)), (V.int .u8 (114 : Int)), (V.int .u8 (116 : Int)), (V.int .u8 (47 : Int)), (V.int .u8 (109 : Int)), (V.int .u8 (105 : Int)), (V.int .u8 (120 : Int)), (V.int .u8 (101 : Int)), (V.int .u8 (100 : Int)), (V.int .u8 (59 : Int)), (V.int .u8 (32 : Int)), (V.int .u8 (98 : Int)), (V.int .u8 (111 : Int)), (V.int .u8 (117 : Int)), (V.int .u8 (110 : Int)), (V.int .u8 (100 : Int)), (V.int .u8 (97 : Int)), (V.int .u8 (114 : Int)), (V.int .u8 (121 : Int)), (V.int .u8 (61 : Int)), (V.int .u8 (98 : Int)), (V.int .u8 (13 : Int)), (V.int .u8 (10 : Int)), (V.int .u8 (13 : Int)), (V.int .u8 (10 : Int)), (V.int .u8 (112 : Int)), (V.int .u8 (114 : Int)), (V.int .u8 (101 : Int)), (V.int .u8 (13 : Int)), (V.int .u8 (10 : Int)), (V.int .u8 (45 : Int)), (V.int .u8 (45 : Int)), (V.int .u8 (98 : Int)), (V.int .u8 (13 : Int)), (V.int .u8 (10 : Int)), (V.int .u8 (13 : Int)), (V.int .u8 (10 : Int)), (V.int .u8 (111 : Int)), (V.int .u8 (110 : Int)), (V.int .u8 (101 : Int)), (V.int .u8 (13 : Int)), (V.int .u8 (10 : Int)), (V.int .u8 (45 : Int)), (V.int .u8 (45 : Int)), (V.int .u8 (98 : Int)), (V.int .u8 (13 : Int)), (V.int .u8 (10 : Int)), (V.int .u8 (67 : Int)), (V.int .u8 (111 : Int)), (V.int .u8 (110 : Int)), (V.int .u8 (116 : Int)), (V.int .u8 (101 : Int)), (V.int .u8 (110 : Int)), (V.int .u8 (116 : Int)), (V.int .u8 (45 : Int)), (V.int .u8 (84 : Int)), (V.int .u8 (121 : Int)), (V.int .u8 (112 : Int)), (V.int .u8 (101 : Int)), (V.int .u8 (58 : Int)), (V.int .u8 (32 : Int)), (V.int .u8 (109 : Int)), (V.int .u8 (101 : Int)), (V.int .u8 (115 : Int)), (V.int .u8 (115 : Int)), (V.int .u8 (97 : Int)), (V.int .u8 (103 : Int)), (V.int .u8 (101 : Int)), (V.int .u8 (47 : Int)), (V.int .u8 (114 : Int)), (V.int .u8 (102 : Int)), (V.int .u8 (99 : Int)), (V.int .u8 (56 : Int)), (V.int .u8 (50 : Int)), (V.int .u8 (50 : Int)), (V.int .u8 (13 : Int)), (V.int .u8 (10 : Int)), (V.int .u8 (13 : Int)), (V.int .u8 (10 : Int)), (V.int .u8 (83 : Int)), (V.int .u8 (117 : Int)), (V.int .u8 (98 : Int)), (V.int .u8 (106 : Int)), (V.int .u8 (101 : Int)), (V.int .u8 (99 : Int)), (V.int .u8 (116 : Int)), (V.int .u8 (58 : Int)), (V.int .u8 (32 : Int)), (V.int .u8 (115 : Int)), (V.int .u8 (13 : Int)), (V.int .u8 (10 : Int)), (V.int .u8 (13 : Int)), (V.int .u8 (10 : Int)), (V.int .u8 (116 : Int)), (V.int .u8 (119 : Int)), (V.int .u8 (111 : Int)), (V.int .u8 (13 : Int)), (V.int .u8 (10 : Int)), (V.int .u8 (45 : Int)), (V.int .u8 (45 : Int)), (V.int .u8 (98 : Int)), (V.int .u8 (45 : Int)), (V.int .u8 (45 : Int)), (V.int .u8 (13 : Int)), (V.int .u8 (10 : Int)), (V.int .u8 (112 : Int)), (V.int .u8 (111 : Int)), (V.int .u8 (115 : Int)), (V.int .u8 (116 : Int))]), (V.agg [(V.int .i64 (getI (headD (V.cells (headD (getT z0.1) V.bot)) V.bot))), (V.int .i64 (getI (headD (tail (V.cells (headD (getT z0.1) V.bot))) V.bot))), (V.int .i64 (getI (headD (tail (tail (V.cells (headD (getT z0.1) V.bot)))) V.bot))), (V.int .i64 (getI (headD (tail (tail (tail (V.cells (headD (getT z0.1) V.bot))))) V.bot))), (V.int .i64 (getI (headD (tail (tail (tail (tail (V.cells (headD (getT z0.1) V.bot)))))) V.bot))), (V.lst 28 false (getL (headD (tail (tail (tail (tail (tail (V.cells (headD (getT z0.1) V.bot))))))) V.bot))), (V.lst 24 false (getL (headD (tail (tail (tail (tail (tail (tail (V.cells (headD (getT z0.1) V.bot)))))))) V.bot))), (V.int .i64 (getI (headD (tail (tail (tail (tail (tail (tail (tail (V.cells (headD (getT z0.1) V.bot))))))))) V.bot))), (V.int .i64 (getI (headD (tail (tail (tail (tail (tail (tail (tail (tail (V.cells (headD (getT z0.1) V.bot)))))))))) V.bot)))]), (V.agg [(V.lst 3 false [(V.int .i64 (1 : Int))]), (V.int .i64 (0 : Int)), (V.lst 9 false []), (V.bool false), (V.int .i64 (0 : Int)), (V.int .i64 (0 : Int))])] []) fun z1 =>
 Option.bind (call 28 [(V.lst 5 false [(V.int .u8 (67 : Int)), (V.int .u8 (111 : Int)), (V.int .u8 (110 : Int)), (V.int .u8 (116 : Int)), (V.int .u8 (101 : Int)), (V.int .u8 (110 : Int)), (V.int .u8 (116 : Int)), (V.int .u8 (45 : Int)), (V.int .u8 (84 : Int)), (V.int .u8 (121 : Int)), (V.int .u8 (112 : Int)), (V.int .u8 (101 : Int)), (V.int .u8 (58 : Int)), (V.int .u8 (32 : Int)), (V.int .u8 (109 : Int)), (V.int .u8 (117 : Int)), (V.int .u8 (108 : Int)), (V.int .u8 (116 : Int)), (V.int .u8 (105 : Int)), (V.int .u8 (112 : Int)), (V.int .u8 (97 : Int)), (V.int .u8 (114 : Int)), (V.int .u8 (116 : Int)), (V.int .u8 (47 : Int)), (V.int .u8 (109 : Int)), (V.int .u8 (105 : Int)), (V.int .u8 (120 : Int)), (V.int .u8 (101 : Int)), (V.int .u8 (100 : Int)), (V.int .u8 (59 : Int)), (V.int .u8 (32 : Int)), (V.int .u8 (98 : Int)), (V.int .u8 (111 : Int)), (V.int .u8 (117 : Int)), (V.int .u8 (110 : Int)), (V.int .u8 (100 : Int)), (V.int .u8 (97 : Int)), (V.int .u8 (114 : Int)), (V.int .u8 (121 : Int)), (V.int .u8 (61 : Int)), (V.int .u8 (98 : Int)), (V.int .u8 (13 : Int)), (V.int .u8 (10 : Int)), (V.int .u8 (13 : Int)), (V.int .u8 (10 : Int)), (V.int .u8 (112 : Int)), (V.int .u8 (114 : Int)), (V.int .u8 (101 : Int)), (V.int .u8 (13 : Int)), (V.int .u8 (10 : Int)), (V.int .u8 (45 : Int)), (V.int .u8 (45 : Int)), (V.int .u8 (98 : Int)), (V.int .u8 (13 : Int)), (V.int .u8 (10 : Int)), (V.int .u8 (13 : Int)), (V.int .u8 (10 : Int)), (V.int .u8 (111 : Int)), (V.int .u8 (110 : Int)), (V.int .u8 (101 : Int)), (V.int .u8 (13 : Int)), (V.int .u8 (10 : Int)), (V.int .u8 (45 : Int)), (V.int .u8 (45 : Int)), (V.int .u8 (98 : Int)), (V.int .u8 (13 : Int)), (V.int .u8 (10 : Int)), (V.int .u8 (67 : Int)), (V.int .u8 (111 : Int)), (V.int .u8 (110 : Int)), (V.int .u8 (116 : Int)), (V.int .u8 (101 : Int)), (V.int .u8 (110 : Int)), (V.int .u8 (116 : Int)), (V.int .u8 (45 : Int)), (V.int .u8 (84 : Int)), (V.int .u8 (121 : Int)), (V.int .u8 (112 : Int)), (V.int .u8 (101 : Int)), (V.int .u8 (58 : Int)), (V.int .u8 (32 : Int)), (V.int .u8 (109 : Int)), (V.int .u8 (101 : Int)), (V.int .u8 (115 : Int)), (V.int .u8 (115 : Int)), (V.int .u8 (97 : Int)), (V.int .u8 (103 : Int)), (V.int .u8 (101 : Int)), (V.int .u8 (47 : Int)), (V.int .u8 (114 : Int)), (V.int .u8 (102 : Int)), (V.int .u8 (99 : Int)), (V.int .u8 (56 : Int)), (V.int .u8 (50 : Int)), (V.int .u8 (50 : Int)), (V.int .u8 (13 : Int)), (V.int .u8 (10 : Int)), (V.int .u8 (13 : Int)), (V.int .u8 (10 : Int)), (V.int .u8 (83 : Int)), (V.int .u8 (117 : Int)), (V.int .u8 (98 : Int)), (V.int .u8 (106 : Int)), (V.int .u8 (101 : Int)), (V.int .u8 (99 : Int)), (V.int .u8 (116 : Int)), (V.int .u8 (58 : Int)), (V.int .u8 (32 : Int)), (V.int .u8 (115 : Int)), (V.int .u8 (13 : Int)), (V.int .u8 (10 : Int)), (V.int .u8 (13 : Int)), (V.int .u8 (10 : Int)), (V.int .u8 (116 : Int)), (V.int .u8 (119 : Int)), (V.int .u8 (111 : Int)), (V.int .u8 (13 : Int)), (V.int .u8 (10 : Int)), (V.int .u8 (45 : Int)), (V.int .u8 (45 : Int)), (V.int .u8 (98 : Int)), (V.int .u8 (45 : Int)), (V.int .u8 (45 : Int)), (V.int .u8 (13 : Int)), (V.int .u8 (10 : Int)), (V.int .u8 (112 : Int)), (V.int .u8 (111 : Int)), (V.int .u8 (115 : Int)), (V.int .u8 (116 : Int))]), (V.agg [(V.int .i64 (getI (headD (V.cells (headD (getT z0.1) V.bot)) V.bot))), (V.int .i64 (getI (headD (tail (V.cells (headD (getT z0.1) V.bot))) V.bot))), (V.int .i64 (getI (headD (tail (tail (V.cells (headD (getT z0.1) V.bot)))) V.bot))), (V.int .i64 (getI (headD (tail (tail (tail (V.cells (headD (getT z0.1) V.bot))))) V.bot))), (V.int .i64 (getI (headD (tail (tail (tail (tail (V.cells (headD (getT z0.1) V.bot)))))) V.bot))), (V.lst 28 false (getL (headD (tail (tail (tail (tail (tail (V.cells (headD (getT z0.1) V.bot))))))) V.bot))), (V.lst 24 false (getL (headD (tail (tail (tail (tail (tail (tail (V.cells (headD (getT z0.1) V.bot)))))))) V.bot))), (V.int .i64 (getI (headD (tail (tail (tail (tail (tail (tail (tail (V.cells (headD (getT z0.1) V.bot))))))))) V.bot))), (V.int .i64 (getI (headD (tail (tail (tail (tail (tail (tail (tail (tail (V.cells (headD (getT z0.1) V.bot)))))))))) V.bot)))]), (V.agg [(V.lst 3 false [(V.int .i64 (2 : Int)), (V.int .i64 (1 : Int))]), (V.int .i64 (0 : Int)), (V.lst 9 false []), (V.bool false), (V.int .i64 (0 : Int)), (V.int .i64 (0 : Int))])] []) fun z2 =>
 Option.bind (call 28 [(V.lst 5 false [(V.int .u8 (67 : Int)), (V.int .u8 (111 : Int)), (V.int .u8 (110 : Int)), (V.int .u8 (116 : Int)), (V.int .u8 (101 : Int)), (V.int .u8 (110 : Int)), (V.int .u8 (116 : Int)), (V.int .u8 (45 : Int)), (V.int .u8 (84 : Int)), (V.int .u8 (121 : Int)), (V.int .u8 (112 : Int)), (V.int .u8 (101 : Int)), (V.int .u8 (58 : Int)), (V.int .u8 (32 : Int)), (V.int .u8 (109 : Int)), (V.int .u8 (117 : Int)), (V.int .u8 (108 : Int)), (V.int .u8 (116 : Int)), (V.int .u8 (105 : Int)), (V.int .u8 (112 : Int)), (V.int .u8 (97 : Int)), (V.int .u8 (114 : Int)), (V.int .u8 (116 : Int)), (V.int .u8 (47 : Int)), (V.int .u8 (109 : Int)), (V.int .u8 (105 : Int)), (V.int .u8 (120 : Int)), (V.int .u8 (101 : Int)), (V.int .u8 (100 : Int)), (V.int .u8 (59 : Int)), (V.int .u8 (32 : Int)), (V.int .u8 (98 : Int)), (V.int .u8 (111 : Int)), (V.int .u8 (117 : Int)), (V.int .u8 (110 : Int)), (V.int .u8 (100 : Int)), (V.int .u8 (97 : Int)), (V.int .u8 (114 : Int)), (V.int .u8 (121 : Int)), (V.int .u8 (61 : Int)), (V.int .u8 (98 : Int)), (V.int .u8 (13 : Int)), (V.int .u8 (10 : Int)), (V.int .u8 (13 : Int)), (V.int .u8 (10 : Int)), (V.int .u8 (112 : Int)), (V.int .u8 (114 : Int)), (V.int .u8 (101 : Int)), (V.int .u8 (13 : Int)), (V.int .u8 (10 : Int)), (V.int .u8 (45 : Int)), (V.int .u8 (45 : Int)), (V.int .u8 (98 : Int)), (V.int .u8 (13 : Int)), (V.int .u8 (10 : Int)), (V.int .u8 (13 : Int)), (V.int .u8 (10 : Int)), (V.int .u8 (111 : Int)), (V.int .u8 (110 : Int)), (V.int .u8 (101 : Int)), (V.int .u8 (13 : Int)), (V.int .u8 (10 : Int)), (V.int .u8 (45 : Int)), (V.int .u8 (45 : Int)), (V.int .u8 (98 : Int)), (V.int .u8 (13 : Int)), (V.int .u8 (10 : Int)), (V.int .u8 (67 : Int)), (V.int .u8 (111 : Int)), (V.int .u8 (110 : Int)), (V.int .u8 (116 : Int)), (V.int .u8 (101 : Int)), (V.int .u8 (110 : Int)), (V.int .u8 (116 : Int)), (V.int .u8 (45 : Int)), (V.int .u8 (84 : Int)), (V.int .u8 (121 : Int)), (V.int .u8 (112 : Int)), (V.int .u8 (101 : Int)), (V.int .u8 (58 : Int)), (V.int .u8 (32 : Int)), (V.int .u8 (109 : Int)), (V.int .u8 (101 : Int)), (V.int .u8 (115 : Int)), (V.int .u8 (115 : Int)), (V.int .u8 (97 : Int)), (V.int .u8 (103 : Int)), (V.int .u8 (101 : Int)), (V.int .u8 (47 : Int)), (V.int .u8 (114 : Int)), (V.int .u8 (102 : Int)), (V.int .u8 (99 : Int)), (V.int .u8 (56 : Int)), (V.int .u8 (50 : Int)), (V.int .u8 (50 : Int)), (V.int .u8 (13 : Int)), (V.int .u8 (10 : Int)), (V.int .u8 (13 : Int)), (V.int .u8 (10 : Int)), (V.int .u8 (83 : Int)), (V.int .u8 (117 : Int)), (V.int .u8 (98 : Int)), (V.int .u8 (106 : Int)), (V.int .u8 (101 : Int)), (V.int .u8 (99 : Int)), (V.int .u8 (116 : Int)), (V.int .u8 (58 : Int)), (V.int .u8 (32 : Int)), (V.int .u8 (115 : Int)), (V.int .u8 (13 : Int)), (V.int .u8 (10 : Int)), (V.int .u8 (13 : Int)), (V.int .u8 (10 : Int)), (V.int .u8 (116 : Int)), (V.int .u8 (119 : Int)), (V.int .u8 (111 : Int)), (V.int .u8 (13 : Int)), (V.int .u8 (10 : Int)), (V.int .u8 (45 : Int)), (V.int .u8 (45 : Int)), (V.int .u8 (98 : Int)), (V.int .u8 (45 : Int)), (V.int .u8 (45 : Int)), (V.int .u8 (13 : Int)), (V.int .u8 (10 : Int)), (V.int .u8 (112 : Int)), (V.int .u8 (111 : Int)), (V.int .u8 (115 : Int)), (V.int .u8 (116 : Int))]), (V.agg [(V.int .i64 (getI (headD (V.cells (headD (getT z0.1) V.bot)) V.bot))), (V.int .i64 (getI (headD (tail (V.cells (headD (getT z0.1) V.bot))) V.bot))), (V.int .i64 (getI (headD (tail (tail (V.cells (headD (getT z0.1) V.bot)))) V.bot))), (V.int .i64 (getI (headD (tail (tail (tail (V.cells (headD (getT z0.1) V.bot))))) V.bot))), (V.int .i64 (getI (headD (tail (tail (tail (tail (V.cells (headD (getT z0.1) V.bot)))))) V.bot))), (V.lst 28 false (getL (headD (tail (tail (tail (tail (tail (V.cells (headD (getT z0.1) V.bot))))))) V.bot))), (V.lst 24 false (getL (headD (tail (tail (tail (tail (tail (tail (V.cells (headD (getT z0.1) V.bot)))))))) V.bot))), (V.int .i64 (getI (headD (tail (tail (tail (tail (tail (tail (tail (V.cells (headD (getT z0.1) V.bot))))))))) V.bot))), (V.int .i64 (getI (headD (tail (tail (tail (tail (tail (tail (tail (tail (V.cells (headD (getT z0.1) V.bot)))))))))) V.bot)))]), (V.agg [(V.lst 3 false [(V.int .i64 (2 : Int))]), (V.int .i64 (2 : Int)), (V.lst 9 false [(V.str [115, 117, 98, 106, 101, 99, 116])]), (V.bool false), (V.int .i64 (0 : Int)), (V.int .i64 (0 : Int))])] []) fun z3 =>
 Option.bind (call 28 [(V.lst 5 false [(V.int .u8 (67 : Int)), (V.int .u8 (111 : Int)), (V.int .u8 (110 : Int)), (V.int .u8 (116 : Int)), (V.int .u8 (101 : Int)), (V.int .u8 (110 : Int)), (V.int .u8 (116 : Int)), (V.int .u8 (45 : Int)), (V.int .u8 (84 : Int)), (V.int .u8 (121 : Int)), (V.int .u8 (112 : Int)), (V.int .u8 (101 : Int)), (V.int .u8 (58 : Int)), (V.int .u8 (32 : Int)), (V.int .u8 (109 : Int)), (V.int .u8 (117 : Int)), (V.int .u8 (108 : Int)), (V.int .u8 (116 : Int)), (V.int .u8 (105 : Int)), (V.int .u8 (112 : Int)), (V.int .u8 (97 : Int)), (V.int .u8 (114 : Int)), (V.int .u8 (116 : Int)), (V.int .u8 (47 : Int)), (V.int .u8 (109 : Int)), (V.int .u8 (105 : Int)), (V.int .u8 (120 : Int)), (V.int .u8 (101 : Int)), (V.int .u8 (100 : Int)), (V.int .u8 (59 : Int)), (V.int .u8 (32 : Int)), (V.int .u8 (98 : Int)), (V.int .u8 (111 : Int)), (V.int .u8 (117 : Int)), (V.int .u8 (110 : Int)), (V.int .u8 (100 : Int)), (V.int .u8 (97 : Int)), (V.int .u8 (114 : Int)), (V.int .u8 (121 : Int)), (V.int .u8 (61 : Int)), (V.int .u8 (98 : Int)), (V.int .u8 (13 : Int)), (V.int .u8 (10 : Int)), (V.int .u8 (13 : Int)), (V.int .u8 (10 : Int)), (V.int .u8 (112 : Int)), (V.int .u8 (114 : Int)), (V.int .u8 (101 : Int)), (V.int .u8 (13 : Int)), (V.int .u8 (10 : Int)), (V.int .u8 (45 : Int)), (V.int .u8 (45 : Int)), (V.int .u8 (98 : Int)), (V.int .u8 (13 : Int)), (V.int .u8 (10 : Int)), (V.int .u8 (13 : Int)), (V.int .u8 (10 : Int)), (V.int .u8 (111 : Int)), (V.int .u8 (110 : Int)), (V.int .u8 (101 : Int)), (V.int .u8 (13 : Int)), (V.int .u8 (10 : Int)), (V.int .u8 (45 : Int)), (V.int .u8 (45 : Int)), (V.int .u8 (98 : Int)), (V.int .u8 (13 : Int)), (V.int .u8 (10 : Int)), (V.int .u8 (67 : Int)), (V.int .u8 (111 : Int)), (V.int .u8 (110 : Int)), (V.int .u8 (116 : Int)), (V.int .u8 (101 : Int)), (V.int .u8 (110 : Int)), (V.int .u8 (116 : Int)), (V.int .u8 (45 : Int)), (V.int .u8 (84 : Int)), (V.int .u8 (121 : Int)), (V.int .u8 (112 : Int)), (V.int .u8 (101 : Int)), (V.int .u8 (58 : Int)), (V.int .u8 (32 : Int)), (V.int .u8 (109 : Int)), (V.int .u8 (101 : Int)), (V.int .u8 (115 : Int)), (V.int .u8 (115 : Int)), (V.int .u8 (97 : Int)), (V.int .u8 (103 : Int)), (V.int .u8 (101 : Int)), (V.int .u8 (47 : Int)), (V.int .u8 (114 : Int)), (V.int .u8 (102 : Int)), (V.int .u8 (99 : Int)), (V.int .u8 (56 : Int)), (V.int .u8 (50 : Int)), (V.int .u8 (50 : Int)), (V.int .u8 (13 : Int)), (V.int .u8 (10 : Int)), (V.int .u8 (13 : Int)), (V.int .u8 (10 : Int)), (V.int .u8 (83 : Int)), (V.int .u8 (117 : Int)), (V.int .u8 (98 : Int)), (V.int .u8 (106 : Int)), (V.int .u8 (101 : Int)), (V.int .u8 (99 : Int)), (V.int .u8 (116 : Int)), (V.int .u8 (58 : Int)), (V.int .u8 (32 : Int)), (V.int .u8 (115 : Int)), (V.int .u8 (13 : Int)), (V.int .u8 (10 : Int)), (V.int .u8 (13 : Int)), (V.int .u8 (10 : Int)), (V.int .u8 (116 : Int)), (V.int .u8 (119 : Int)), (V.int .u8 (111 : Int)), (V.int .u8 (13 : Int)), (V.int .u8 (10 : Int)), (V.int .u8 (45 : Int)), (V.int .u8 (45 : Int)), (V.int .u8 (98 : Int)), (V.int .u8 (45 : Int)), (V.int .u8 (45 : Int)), (V.int .u8 (13 : Int)), (V.int .u8 (10 : Int)), (V.int .u8 (112 : Int)), (V.int .u8 (111 : Int)), (V.int .u8 (115 : Int)), (V.int .u8 (116 : Int))]), (V.agg [(V.int .i64 (getI (headD (V.cells (headD (getT z0.1) V.bot)) V.bot))), (V.int .i64 (getI (headD (tail (V.cells (headD (getT z0.1) V.bot))) V.bot))), (V.int .i64 (getI (headD (tail (tail (V.cells (headD (getT z0.1) V.bot)))) V.bot))), (V.int .i64 (getI (headD (tail (tail (tail (V.cells (headD (getT z0.1) V.bot))))) V.bot))), (V.int .i64 (getI (headD (tail (tail (tail (tail (V.cells (headD (getT z0.1) V.bot)))))) V.bot))), (V.lst 28 false (getL (headD (tail (tail (tail (tail (tail (V.cells (headD (getT z0.1) V.bot))))))) V.bot))), (V.lst 24 false (getL (headD (tail (tail (tail (tail (tail (tail (V.cells (headD (getT z0.1) V.bot)))))))) V.bot))), (V.int .i64 (getI (headD (tail (tail (tail (tail (tail (tail (tail (V.cells (headD (getT z0.1) V.bot))))))))) V.bot))), (V.int .i64 (getI (headD (tail (tail (tail (tail (tail (tail (tail (tail (V.cells (headD (getT z0.1) V.bot)))))))))) V.bot)))]), (V.agg [(V.lst 3 false [(V.int .i64 (1 : Int))]), (V.int .i64 (0 : Int)), (V.lst 9 false []), (V.bool true), (V.int .i64 (1 : Int)), (V.int .i64 (9 : Int))])] []) fun z4 =>
 Option.bind (call 36 [(V.agg [(V.int .i64 (getI (headD (V.cells (headD (getT z0.1) V.bot)) V.bot))), (V.int .i64 (getI (headD (tail (V.cells (headD (getT z0.1) V.bot))) V.bot))), (V.int .i64 (getI (headD (tail (tail (V.cells (headD (getT z0.1) V.bot)))) V.bot))), (V.int .i64 (getI (headD (tail (tail (tail (V.cells (headD (getT z0.1) V.bot))))) V.bot))), (V.int .i64 (getI (headD (tail (tail (tail (tail (V.cells (headD (getT z0.1) V.bot)))))) V.bot))), (V.lst 28 false (getL (headD (tail (tail (tail (tail (tail (V.cells (headD (getT z0.1) V.bot))))))) V.bot))), (V.lst 24 false (getL (headD (tail (tail (tail (tail (tail (tail (V.cells (headD (getT z0.1) V.bot)))))))) V.bot))), (V.int .i64 (getI (headD (tail (tail (tail (tail (tail (tail (tail (V.cells (headD (getT z0.1) V.bot))))))))) V.bot))), (V.int .i64 (getI (headD (tail (tail (tail (tail (tail (tail (tail (tail (V.cells (headD (getT z0.1) V.bot)))))))))) V.bot)))]), (V.lst 3 false [(V.int .i64 (3 : Int))])] []) fun z5 =>
 if ((getI (headD (tail (getT z0.1)) V.bot)) == (0 : Int)) = true then
 if (sEq (bytesOf (getL z1.1)) [111, 110, 101]) = true then
 if (sEq (bytesOf (getL z2.1)) [116, 119, 111]) = true then
 if (sEq (bytesOf (getL z3.1)) [83, 117, 98, 106, 101, 99, 116, 58, 32, 115, 13, 10, 13, 10]) = true then
 if (sEq (bytesOf (getL z4.1)) [110, 101]) = true then
 some ((V.bool (!(getB (headD (tail (getT z5.1)) V.bot)))), [])
 else
 some ((V.bool false), [])
 else
 some ((V.bool false), [])
 else
 some ((V.bool false), [])
 else
 some ((V.bool false), [])
 else
 some ((V.bool false), [])
def A27 : List V := []
theorem E27 (call : FuncId → Fun) (icall : ICall (V × List Ob)) (again : List It → St → Option (V × List Ob)) : GO 27 Tryd.f27 A27 [] call icall again = T27 call := by kernel_rfl
theorem C27 (k : Nat) : callN cfg (k + 1) 27 A27 [] = T27 (callN cfg k) :=
 (show callN cfg (k + 1) 27 A27 [] = GO 27 Tryd.f27 A27 [] (callN cfg k) (icallN cfg (callN cfg k) 20) (RN 27 Tryd.f27 [] (callN cfg k) (icallN cfg (callN cfg k) 20) k) by kernel_rfl).trans (E27 _ _ _)
theorem M27 {r : V × List Ob} (h : Evt (fun k n => T27 (callN cfg k)) r) : Ret 27 [] [] r := ret_mk (g := fun k n => T27 (callN cfg k)) (fun k => C27 k) h
def T10_0 (call : FuncId → Fun) (ag0 : List V → Int → Int → Int → Int → Int → Int → Int → List V → List V → Int → Int → Option (V × List Ob)) (l0 : List V) (i1 : Int) (i2 : Int) (i3 : Int) (i4 : Int) (i5 : Int) (i6 : Int) (i7 : Int) (l8 : List V) (l9 : List V) (i10 : Int) (i11 : Int) : Option (V × List Ob) :=
 if (decide (i2 < ((length l8 : Nat) : Int))) = true then
 chk (decide (0 ≤ i2)) (chk (decide (i2 < ((length l8 : Nat) : Int))) (Option.bind (call 28 [(V.lst 5 false l0), (V.agg [(V.int .i64 i3), (V.int .i64 i4), (V.int .i64 i5), (V.int .i64 i6), (V.int .i64 i7), (V.lst 28 false l8), (V.lst 24 false l9), (V.int .i64 i10), (V.int .i64 i11)]), (V.agg [(V.lst 3 false [(V.int .i64 (IntKind.wrap .i64 (i2 + (1 : Int))))]), (V.int .i64 (5 : Int)), (V.lst 9 false []), (V.bool false), (V.int .i64 (0 : Int)), (V.int .i64 (0 : Int))])] []) fun z0 =>
 Option.bind (call 28 [(V.lst 5 false l0), (V.agg [(V.int .i64 i3), (V.int .i64 i4), (V.int .i64 i5), (V.int .i64 i6), (V.int .i64 i7), (V.lst 28 false l8), (V.lst 24 false l9), (V.int .i64 i10), (V.int .i64 i11)]), (V.agg [(V.lst 3 false [(V.int .i64 (IntKind.wrap .i64 (i2 + (1 : Int))))]), (V.int .i64 (0 : Int)), (V.lst 9 false []), (V.bool false), (V.int .i64 (0 : Int)), (V.int .i64 (0 : Int))])] []) fun z1 =>
 if (decide ((getI (headD (tail (V.cells (getD l8 (Int.toNat i2) V.bot))) V.bot)) < (0 : Int))) = false then
 if (decide ((getI (headD (tail (tail (tail (tail (V.cells (getD l8 (Int.toNat i2) V.bot)))))) V.bot)) < (getI (headD (tail (V.cells (getD l8 (Int.toNat i2) V.bot))) V.bot)))) = false then
 if (decide ((getI (headD (tail (tail (tail (tail (V.cells (getD l8 (Int.toNat i2) V.bot)))))) V.bot)) > ((length l0 : Nat) : Int))) = false then
 chk (catOk (bytesOf (getL z0.1)) (bytesOf (getL z1.1))) (chk (decide (0 ≤ (getI (headD (tail (tail (tail (tail (V.cells (getD l8 (Int.toNat i2) V.bot)))))) V.bot)))) (chk (decide ((getI (headD (tail (tail (tail (tail (V.cells (getD l8 (Int.toNat i2) V.bot)))))) V.bot)) ≤ ((length l0 : Nat) : Int))) (chk (decide (0 ≤ (getI (headD (tail (V.cells (getD l8 (Int.toNat i2) V.bot))) V.bot)))) (chk (decide ((getI (headD (tail (V.cells (getD l8 (Int.toNat i2) V.bot))) V.bot)) ≤ (getI (headD (tail (tail (tail (tail (V.cells (getD l8 (Int.toNat i2) V.bot)))))) V.bot)))) (if (!(sEq ((bytesOf (getL z0.1)) ++ (bytesOf (getL z1.1))) (bytesOf (drop (Int.toNat (getI (headD (tail (V.cells (getD l8 (Int.toNat i2) V.bot))) V.bot))) (take (Int.toNat (getI (headD (tail (tail (tail (tail (V.cells (getD l8 (Int.toNat i2) V.bot)))))) V.bot))) l0))))) = true then
 some ((V.bool false), [])
 else
 (ag0 (l0) (i1) ((IntKind.wrap .i64 (i2 + (1 : Int)))) (i3) (i4) (i5) (i6) (i7) (l8) (l9) (i10) (i11)))))))
 else
 some ((V.bool false), [])
 else
 some ((V.bool false), [])
 else
 some ((V.bool false), [])))
 else
 Option.bind (call 28 [(V.lst 5 false l0), (V.agg [(V.int .i64 i3), (V.int .i64 i4), (V.int .i64 i5), (V.int .i64 i6), (V.int .i64 i7), (V.lst 28 false l8), (V.lst 24 false l9), (V.int .i64 i10), (V.int .i64 i11)]), (V.agg [(V.lst 3 false [(V.int .i64 (IntKind.wrap .i64 ((IntKind.wrap .i64 (((length l8 : Nat) : Int) + (1 : Int))) + (IntKind.wrap .i64 i1))))]), (V.int .i64 (0 : Int)), (V.lst 9 false []), (V.bool false), (V.int .i64 (0 : Int)), (V.int .i64 (0 : Int))])] []) fun z0 =>
 some ((V.bool (((length (getL z0.1) : Nat) : Int) == (0 : Int))), [])
def T10 (call : FuncId → Fun) (ag0 : List V → Int → Int → Int → Int → Int → Int → Int → List V → List V → Int → Int → Option (V × List Ob)) (a0 : List V) (a1 : Int) : Option (V × List Ob) :=
 Option.bind (call 27 [] []) fun z0 =>
 if (!(getB z0.1)) = true then
 some ((V.bool false), [])
 else
 if (decide (((length a0 : Nat) : Int) > (2000 : Int))) = true then
 some ((V.bool true), [])
 else
 Option.bind (call 15 [(V.lst 5 false a0)] []) fun z1 =>
 Option.bind (call 28 [(V.lst 5 false a0), (V.agg [(V.int .i64 (getI (headD (V.cells (headD (getT z1.1) V.bot)) V.bot))), (V.int .i64 (getI (headD (tail (V.cells (headD (getT z1.1) V.bot))) V.bot))), (V.int .i64 (getI (headD (tail (tail (V.cells (headD (getT z1.1) V.bot)))) V.bot))), (V.int .i64 (getI (headD (tail (tail (tail (V.cells (headD (getT z1.1) V.bot))))) V.bot))), (V.int .i64 (getI (headD (tail (tail (tail (tail (V.cells (headD (getT z1.1) V.bot)))))) V.bot))), (V.lst 28 false (getL (headD (tail (tail (tail (tail (tail (V.cells (headD (getT z1.1) V.bot))))))) V.bot))), (V.lst 24 false (getL (headD (tail (tail (tail (tail (tail (tail (V.cells (headD (getT z1.1) V.bot)))))))) V.bot))), (V.int .i64 (getI (headD (tail (tail (tail (tail (tail (tail (tail (V.cells (headD (getT z1.1) V.bot))))))))) V.bot))), (V.int .i64 (getI (headD (tail (tail (tail (tail (tail (tail (tail (tail (V.cells (headD (getT z1.1) V.bot)))))))))) V.bot)))]), (V.agg [(V.lst 3 false []), (V.int .i64 (1 : Int)), (V.lst 9 false []), (V.bool false), (V.int .i64 (0 : Int)), (V.int .i64 (0 : Int))])] []) fun z2 =>
 Option.bind (call 28 [(V.lst 5 false a0), (V.agg [(V.int .i64 (getI (headD (V.cells (headD (getT z1.1) V.bot)) V.bot))), (V.int .i64 (getI (headD (tail (V.cells (headD (getT z1.1) V.bot))) V.bot))), (V.int .i64 (getI (headD (tail (tail (V.cells (headD (getT z1.1) V.bot)))) V.bot))), (V.int .i64 (getI (headD (tail (tail (tail (V.cells (headD (getT z1.1) V.bot))))) V.bot))), (V.int .i64 (getI (headD (tail (tail (tail (tail (V.cells (headD (getT z1.1) V.bot)))))) V.bot))), (V.lst 28 false (getL (headD (tail (tail (tail (tail (tail (V.cells (headD (getT z1.1) V.bot))))))) V.bot))), (V.lst 24 false (getL (headD (tail (tail (tail (tail (tail (tail (V.cells (headD (getT z1.1) V.bot)))))))) V.bot))), (V.int .i64 (getI (headD (tail (tail (tail (tail (tail (tail (tail (V.cells (headD (getT z1.1) V.bot))))))))) V.bot))), (V.int .i64 (getI (headD (tail (tail (tail (tail (tail (tail (tail (tail (V.cells (headD (getT z1.1) V.bot)))))))))) V.bot)))]), (V.agg [(V.lst 3 false []), (V.int .i64 (4 : Int)), (V.lst 9 false []), (V.bool false), (V.int .i64 (0 : Int)), (V.int .i64 (0 : Int))])] []) fun z3 =>
 if ((getI (headD (tail (getT z1.1)) V.bot)) != (0 : Int)) = false then
 chk (catOk (bytesOf (getL z2.1)) (bytesOf (getL z3.1))) (if (!(sEq ((bytesOf (getL z2.1)) ++ (bytesOf (getL z3.1))) (bytesOf a0))) = false then
 Option.bind (call 28 [(V.lst 5 false a0), (V.agg [(V.int .i64 (getI (headD (V.cells (headD (getT z1.1) V.bot)) V.bot))), (V.int .i64 (getI (headD (tail (V.cells (headD (getT z1.1) V.bot))) V.bot))), (V.int .i64 (getI (headD (tail (tail (V.cells (headD (getT z1.1) V.bot)))) V.bot))), (V.int .i64 (getI (headD (tail (tail (tail (V.cells (headD (getT z1.1) V.bot))))) V.bot))), (V.int .i64 (getI (headD (tail (tail (tail (tail (V.cells (headD (getT z1.1) V.bot)))))) V.bot))), (V.lst 28 false (getL (headD (tail (tail (tail (tail (tail (V.cells (headD (getT z1.1) V.bot))))))) V.bot))), (V.lst 24 false (getL (headD (tail (tail (tail (tail (tail (tail (V.cells (headD (getT z1.1) V.bot)))))))) V.bot))), (V.int .i64 (getI (headD (tail (tail (tail (tail (tail (tail (tail (V.cells (headD (getT z1.1) V.bot))))))))) V.bot))), (V.int .i64 (getI (headD (tail (tail (tail (tail (tail (tail (tail (tail (V.cells (headD (getT z1.1) V.bot)))))))))) V.bot)))]), (V.agg [(V.lst 3 false []), (V.int .i64 (0 : Int)), (V.lst 9 false []), (V.bool false), (V.int .i64 (0 : Int)), (V.int .i64 (0 : Int))])] []) fun z4 =>
 if (!(sEq (bytesOf (getL z4.1)) (bytesOf a0))) = true then
 some ((V.bool false), [])
 else
 if ((getI (headD (V.cells (headD (getT z1.1) V.bot)) V.bot)) != (1 : Int)) = true then
 Option.bind (call 28 [(V.lst 5 false a0), (V.agg [(V.int .i64 (getI (headD (V.cells (headD (getT z1.1) V.bot)) V.bot))), (V.int .i64 (getI (headD (tail (V.cells (headD (getT z1.1) V.bot))) V.bot))), (V.int .i64 (getI (headD (tail (tail (V.cells (headD (getT z1.1) V.bot)))) V.bot))), (V.int .i64 (getI (headD (tail (tail (tail (V.cells (headD (getT z1.1) V.bot))))) V.bot))), (V.int .i64 (getI (headD (tail (tail (tail (tail (V.cells (headD (getT z1.1) V.bot)))))) V.bot))), (V.lst 28 false (getL (headD (tail (tail (tail (tail (tail (V.cells (headD (getT z1.1) V.bot))))))) V.bot))), (V.lst 24 false (getL (headD (tail (tail (tail (tail (tail (tail (V.cells (headD (getT z1.1) V.bot)))))))) V.bot))), (V.int .i64 (getI (headD (tail (tail (tail (tail (tail (tail (tail (V.cells (headD (getT z1.1) V.bot))))))))) V.bot))), (V.int .i64 (getI (headD (tail (tail (tail (tail (tail (tail (tail (tail (V.cells (headD (getT z1.1) V.bot)))))))))) V.bot)))]), (V.agg [(V.lst 3 false [(V.int .i64 (1 : Int))]), (V.int .i64 (0 : Int)), (V.lst 9 false []), (V.bool false), (V.int .i64 (0 : Int)), (V.int .i64 (0 : Int))])] []) fun z5 =>
 if (sEq (bytesOf (getL z5.1)) (bytesOf (getL z3.1))) = true then
 Option.bind (call 28 [(V.lst 5 false a0), (V.agg [(V.int .i64 (getI (headD (V.cells (headD (getT z1.1) V.bot)) V.bot))), (V.int .i64 (getI (headD (tail (V.cells (headD (getT z1.1) V.bot))) V.bot))), (V.int .i64 (getI (headD (tail (tail (V.cells (headD (getT z1.1) V.bot)))) V.bot))), (V.int .i64 (getI (headD (tail (tail (tail (V.cells (headD (getT z1.1) V.bot))))) V.bot))), (V.int .i64 (getI (headD (tail (tail (tail (tail (V.cells (headD (getT z1.1) V.bot)))))) V.bot))), (V.lst 28 false (getL (headD (tail (tail (tail (tail (tail (V.cells (headD (getT z1.1) V.bot))))))) V.bot))), (V.lst 24 false (getL (headD (tail (tail (tail (tail (tail (tail (V.cells (headD (getT z1.1) V.bot)))))))) V.bot))), (V.int .i64 (getI (headD (tail (tail (tail (tail (tail (tail (tail (V.cells (headD (getT z1.1) V.bot))))))))) V.bot))), (V.int .i64 (getI (headD (tail (tail (tail (tail (tail (tail (tail (tail (V.cells (headD (getT z1.1) V.bot)))))))))) V.bot)))]), (V.agg [(V.lst 3 false [(V.int .i64 (IntKind.wrap .i64 ((2 : Int) + (IntKind.wrap .i64 a1))))]), (V.int .i64 (0 : Int)), (V.lst 9 false []), (V.bool false), (V.int .i64 (0 : Int)), (V.int .i64 (0 : Int))])] []) fun z6 =>
 some ((V.bool (((length (getL z6.1) : Nat) : Int) == (0 : Int))), [])
 else
 some ((V.bool false), [])
 else
 (ag0 (a0) (a1) ((0 : Int)) ((getI (headD (V.cells (headD (getT z1.1) V.bot)) V.bot))) ((getI (headD (tail (V.cells (headD (getT z1.1) V.bot))) V.bot))) ((getI (headD (tail (tail (V.cells (headD (getT z1.1) V.bot)))) V.bot))) ((getI (headD (tail (tail (tail (V.cells (headD (getT z1.1) V.bot))))) V.bot))) ((getI (headD (tail (tail (tail (tail (V.cells (headD (getT z1.1) V.bot)))))) V.bot))) ((getL (headD (tail (tail (tail (tail (tail (V.cells (headD (getT z1.1) V.bot))))))) V.bot))) ((getL (headD (tail (tail (tail (tail (tail (tail (V.cells (headD (getT z1.1) V.bot)))))))) V.bot))) ((getI (headD (tail (tail (tail (tail (tail (tail (tail (V.cells (headD (getT z1.1) V.bot))))))))) V.bot))) ((getI (headD (tail (tail (tail (tail (tail (tail (tail (tail (V.cells (headD (getT z1.1) V.bot)))))))))) V.bot))))
 else
 some ((V.bool false), []))
 else
 some ((V.bool false), [])
def A10 (a0 : List V) (a1 : Int) : List V := [V.lst 5 false a0, V.int IntKind.u16 a1]
def K10_0 (l0 : List V) (i1 : Int) (i2 : Int) (i3 : Int) (i4 : Int) (i5 : Int) (i6 : Int) (i7 : Int) (l8 : List V) (l9 : List V) (i10 : Int) (i11 : Int) : St := ⟨[(V.lst 5 false l0), (V.int IntKind.u16 i1), V.bot, V.bot, V.bot, V.bot, (V.ref 0 0), V.bot, V.bot, V.bot, (V.int IntKind.i64 i2)] ++ List.replicate 146 V.bot, [(Ob.cells [(V.int IntKind.i64 i3), (V.int IntKind.i64 i4), (V.int IntKind.i64 i5), (V.int IntKind.i64 i6), (V.int IntKind.i64 i7), (V.lst 28 false l8), (V.lst 24 false l9), (V.int IntKind.i64 i10), (V.int IntKind.i64 i11)])]⟩
theorem S10_0 (call : FuncId → Fun) (icall : ICall (V × List Ob)) (again : List It → St → Option (V × List Ob)) (l0 : List V) (i1 : Int) (i2 : Int) (i3 : Int) (i4 : Int) (i5 : Int) (i6 : Int) (i7 : Int) (l8 : List V) (l9 : List V) (i10 : Int) (i11 : Int) :
 RM 10 Tryd.f10 [] call icall again (tdOf Tryd.f10 0) (K10_0 l0 i1 i2 i3 i4 i5 i6 i7 l8 l9 i10 i11) = T10_0 call (fun l0 i1 i2 i3 i4 i5 i6 i7 l8 l9 i10 i11 => again (tdOf Tryd.f10 0) (K10_0 l0 i1 i2 i3 i4 i5 i6 i7 l8 l9 i10 i11)) l0 i1 i2 i3 i4 i5 i6 i7 l8 l9 i10 i11 := by kernel_rfl
theorem E10 (call : FuncId → Fun) (icall : ICall (V × List Ob)) (again : List It → St → Option (V × List Ob)) (a0 : List V) (a1 : Int) : GO 10 Tryd.f10 (A10 a0 a1) [] call icall again = T10 call (fun l0 i1 i2 i3 i4 i5 i6 i7 l8 l9 i10 i11 => again (tdOf Tryd.f10 0) (K10_0 l0 i1 i2 i3 i4 i5 i6 i7 l8 l9 i10 i11)) a0 a1 := by kernel_rfl
def L10 (call : FuncId → Fun) : Nat → (List V → Int → Int → Int → Int → Int → Int → Int → List V → List V → Int → Int → Option (V × List Ob))
 | 0 => fun _ _ _ _ _ _ _ _ _ _ _ _ => none
 | n + 1 => T10_0 call (L10 call n)
theorem R10 (call : FuncId → Fun) (icall : ICall (V × List Ob)) : ∀ n, (∀ (l0 : List V) (i1 : Int) (i2 : Int) (i3 : Int) (i4 : Int) (i5 : Int) (i6 : Int) (i7 : Int) (l8 : List V) (l9 : List V) (i10 : Int) (i11 : Int), RN 10 Tryd.f10 [] call icall n (tdOf Tryd.f10 0) (K10_0 l0 i1 i2 i3 i4 i5 i6 i7 l8 l9 i10 i11) = (L10 call n) l0 i1 i2 i3 i4 i5 i6 i7 l8 l9 i10 i11)
  | 0 => fun l0 i1 i2 i3 i4 i5 i6 i7 l8 l9 i10 i11 => rfl
  | n + 1 => by
    have ih := R10 call icall n
    exact fun l0 i1 i2 i3 i4 i5 i6 i7 l8 l9 i10 i11 => (S10_0 call icall (RN 10 Tryd.f10 [] call icall n) l0 i1 i2 i3 i4 i5 i6 i7 l8 l9 i10 i11).trans (by rw [show (fun l0 i1 i2 i3 i4 i5 i6 i7 l8 l9 i10 i11 => RN 10 Tryd.f10 [] call icall n (tdOf Tryd.f10 0) (K10_0 l0 i1 i2 i3 i4 i5 i6 i7 l8 l9 i10 i11)) = (L10 call n) from (funext fun l0 => funext fun i1 => funext fun i2 => funext fun i3 => funext fun i4 => funext fun i5 => funext fun i6 => funext fun i7 => funext fun l8 => funext fun l9 => funext fun i10 => funext fun i11 => ih l0 i1 i2 i3 i4 i5 i6 i7 l8 l9 i10 i11)]; rfl)
theorem C10 (k : Nat) (a0 : List V) (a1 : Int) : callN cfg (k + 1) 10 (A10 a0 a1) [] = T10 (callN cfg k) (L10 (callN cfg k) k) a0 a1 := by
 have ih := R10 (callN cfg k) (icallN cfg (callN cfg k) 20) k
 refine (show callN cfg (k + 1) 10 (A10 a0 a1) [] = GO 10 Tryd.f10 (A10 a0 a1) [] (callN cfg k) (icallN cfg (callN cfg k) 20) (RN 10 Tryd.f10 [] (callN cfg k) (icallN cfg (callN cfg k) 20) k) by kernel_rfl).trans ((E10 _ _ _ a0 a1).trans ?_)
 rw [show (fun l0 i1 i2 i3 i4 i5 i6 i7 l8 l9 i10 i11 => RN 10 Tryd.f10 [] (callN cfg k) (icallN cfg (callN cfg k) 20) k (tdOf Tryd.f10 0) (K10_0 l0 i1 i2 i3 i4 i5 i6 i7 l8 l9 i10 i11)) = (L10 (callN cfg k) k) from (funext fun l0 => funext fun i1 => funext fun i2 => funext fun i3 => funext fun i4 => funext fun i5 => funext fun i6 => funext fun i7 => funext fun l8 => funext fun l9 => funext fun i10 => funext fun i11 => ih l0 i1 i2 i3 i4 i5 i6 i7 l8 l9 i10 i11)]
theorem M10 (a0 : List V) (a1 : Int) {r : V × List Ob} (h : Evt (fun k n => T10 (callN cfg k) (L10 (callN cfg k) n) a0 a1) r) : Ret 10 [V.lst 5 false a0, V.int IntKind.u16 a1] [] r := ret_mk (g := fun k n => T10 (callN cfg k) (L10 (callN cfg k) n) a0 a1) (fun k => C10 k a0 a1) h
theorem N10_0 (l0 : List V) (i1 : Int) (i2 : Int) (i3 : Int) (i4 : Int) (i5 : Int) (i6 : Int) (i7 : Int) (l8 : List V) (l9 : List V) (i10 : Int) (i11 : Int) {r : V × List Ob} (h : Evt (fun k n => T10_0 (callN cfg k) (L10 (callN cfg k) n) l0 i1 i2 i3 i4 i5 i6 i7 l8 l9 i10 i11) r) : Evt (fun k n => (L10 (callN cfg k) n) l0 i1 i2 i3 i4 i5 i6 i7 l8 l9 i10 i11) r := evt_step (fun k n => rfl) h
end Go.Proofs.YtemgbdncidgoiaaDoor
end
section
namespace Go.Proofs.YtemgbdncidgoiaaDoor
open Go.Ev Go
theorem linesOf_to {fr to : Nat} {b : Bs} : ∀ x ∈ linesOf (fr : Nat) (to : Nat) b, fr ≤ x.2.2 ∧ x.2.2 ≤ to := by
  intro x hx
  unfold linesOf at hx
  split at hx
  · rename_i h
    have := linesG_bounds _ _ _ x hx
    simp at this
    omega
  · cases hx
theorem headF_span {fr to : Nat} (b : Bs) (h : fr ≤ to) : fr ≤ (headF b (fr : Nat) (to : Nat)).2.toNat ∧ (headF b (fr : Nat) (to : Nat)).2.toNat ≤ to := by
  have hb : ∀ x ∈ linesOf (fr : Nat) (to : Nat) b, fr ≤ x.2.2 ∧ x.2.2 ≤ to := linesOf_to
  generalize hl : linesOf (fr : Nat) (to : Nat) b = l at hb
  have hd : ∀ k, k < l.length → fr ≤ (l.getD k (0, 0, 0)).2.2 ∧ (l.getD k (0, 0, 0)).2.2 ≤ to := fun k hk => by
    have : l.getD k (0, 0, 0) = l[k] := by simp [List.getD, hk]
    rw [this]; exact hb _ (List.getElem_mem hk)
  unfold headF
  rw [hl]
  by_cases h0 : l = []
  · rw [if_pos h0]; simp; omega
  · have hpos : 0 < l.length := List.length_pos_iff.2 h0
    rw [if_neg h0]
    cases he : emptyF l with
    | some k =>
      have := hd k (emptyF_lt he)
      simp only [Int.toNat_natCast]; exact this
    | none =>
      have := hd (l.length - 1) (by omega)
      simp only [Int.toNat_natCast]; exact this
theorem entF_hb (b : Bs) (d fr to : Nat) (dg : Bool) (n : Nat) : (entF b d fr to dg n).1.hd = (fr, (headF b (fr : Nat) (to : Nat)).2.toNat) ∧ (entF b d fr to dg n).1.bd = ((headF b (fr : Nat) (to : Nat)).2.toNat, to) := by
  cases d with
  | zero => rw [entF]; exact ⟨rfl, rfl⟩
  | succ d =>
    obtain ⟨t, u, ps, h3⟩ : ∃ t u ps, kindF b (headF b (fr : Nat) (to : Nat)).1 dg = (t, u, ps) := ⟨_, _, _, rfl⟩
    obtain ⟨cs, e, h5⟩ : ∃ cs e, cutsF b (headF b (fr : Nat) (to : Nat)).2.toNat to ((getF ps bdB).getD []) = (cs, e) := ⟨_, _, rfl⟩
    rw [entF_s b d fr to dg n rfl rfl h3 rfl h5]
    split
    · split <;> exact ⟨rfl, rfl⟩
    · split <;> exact ⟨rfl, rfl⟩
def SpanOk (b : Bs) (q : Pt) : Prop := q.hd.2 = q.bd.1 ∧ q.hd.1 ≤ q.hd.2 ∧ q.bd.1 ≤ q.bd.2 ∧ q.bd.2 ≤ b.length
theorem entF_spanOk (b : Bs) (d fr to : Nat) (dg : Bool) (n : Nat) (h1 : fr ≤ to) (h2 : to ≤ b.length) : SpanOk b (entF b d fr to dg n).1 := by
  obtain ⟨e1, e2⟩ := entF_hb b d fr to dg n
  have := headF_span b h1
  unfold SpanOk
  rw [e1, e2]
  exact ⟨rfl, this.1, this.2, h2⟩
theorem kidsF_spanOk (b : Bs) (ent : Nat → Nat → Nat → Pt × Nat) (h : ∀ fr to n, fr ≤ to → to ≤ b.length → SpanOk b (ent fr to n).1) (fin : Nat) (hf : fin ≤ b.length) : ∀ (cs : List (Nat × Nat)) (n : Nat), (∀ c ∈ cs, c.1 ≤ b.length ∧ c.2 ≤ b.length) →
    ∀ q ∈ (kidsF ent fin cs n).1, SpanOk b q
  | [], n, _ => by rw [kidsF]; simp
  | c :: r, n, hc => by
    obtain ⟨h1, h2⟩ := hc c (by simp)
    have hr : ∀ x ∈ r, x.1 ≤ b.length ∧ x.2 ≤ b.length := fun x hx => hc x (by simp [hx])
    have hx : max (nextF fin r) c.2 ≤ b.length := by
      cases r with
      | nil => simp only [nextF]; omega
      | cons x r => have := hr x (by simp); simp only [nextF]; omega
    rw [kidsF]
    intro q hq
    rcases List.mem_cons.1 hq with rfl | hq
    · exact h _ _ _ (by omega) hx
    · exact kidsF_spanOk b ent h fin hf r _ hr q hq
theorem entF_ks (b : Bs) (d fr to : Nat) (dg : Bool) (n : Nat) (hf : fr ≤ b.length) (ht : to ≤ b.length) (hk : (entF b d fr to dg n).1.kd = 1) : ∀ q ∈ (entF b d fr to dg n).1.ks, SpanOk b q := by
  cases d with
  | zero => rw [entF] at hk; cases hk
  | succ d =>
    generalize h1 : (headF b (fr : Nat) (to : Nat)).1 = l
    generalize h2 : (headF b (fr : Nat) (to : Nat)).2.toNat = at_
    have hat : at_ ≤ b.length := by rw [← h2]; have := headF_end b fr to; omega
    obtain ⟨t, u, ps, h3⟩ : ∃ t u ps, kindF b l dg = (t, u, ps) := ⟨_, _, _, rfl⟩
    generalize h4 : (getF ps bdB).getD [] = bd
    obtain ⟨cs, e, h5⟩ : ∃ cs e, cutsF b at_ to bd = (cs, e) := ⟨_, _, rfl⟩
    obtain ⟨q1, q2, q3⟩ := cutsF_in (m := b.length) b at_ to bd (Nat.le_refl _) hat ht
    rw [h5] at q1 q2 q3
    rw [entF_s b d fr to dg n h1 h2 h3 h4 h5] at hk ⊢
    split
    · split
      · exact kidsF_spanOk b _ (fun fr to n g1 g2 => entF_spanOk b d fr to _ n g1 g2) e.1 q2 cs _ q1
      · rename_i g1 g2
        rw [if_pos g1, if_neg g2] at hk; cases hk
    · split
      · rename_i g1 g2
        rw [if_neg g1, if_pos g2] at hk; cases hk
      · rename_i g1 g2
        rw [if_neg g1, if_neg g2] at hk; cases hk
theorem subF_cat (b : Bs) {x y z : Nat} (h1 : x ≤ y) (h2 : y ≤ z) (h3 : z ≤ b.length) : subF b x y ++ subF b y z = subF b x z := by
  unfold subF
  apply List.ext_getElem?
  intro i
  rw [List.getElem?_append]
  simp only [List.length_drop, List.length_take, List.getElem?_drop, List.getElem?_take]
  by_cases hi : i < min y b.length - x
  · rw [if_pos hi, if_pos (by omega), if_pos (by omega)]
  · rw [if_neg hi]
    by_cases hz : x + i < z
    · rw [if_pos (by omega), if_pos hz]
      congr 1; omega
    · rw [if_neg (by omega), if_neg hz]
theorem subF_all (b : Bs) : subF b 0 b.length = b := by unfold subF; rw [List.take_length, List.drop_zero]
def mkS (path : List Int) (w : Int) : Sp := ⟨path, w, [], false, 0, 0⟩
theorem mkS_ok {path : List Int} {w : Int} (h : path.length ≤ 1000000) : SpOk (mkS path w) := ⟨by simp [mkS], by simp [mkS], h⟩
theorem gets_nil (b : Bs) (p : Pt) {w : Int} (hw : w = 0 ∨ w = 1 ∨ w = 4) : getsF b p (mkS [] w) = messageF b p (mkS [] w) := by
  have hc : checkF (mkS [] w) = true := by rcases hw with rfl | rfl | rfl <;> kernel_rfl
  unfold getsF allF
  rw [if_neg (by simp [mkS]), if_pos hc, if_pos (by simp [mkS])]
theorem gets_0 (b : Bs) (p : Pt) : getsF b p (mkS [] 0) = bytesF b p.hd.1 p.bd.2 := by rw [gets_nil b p (.inl rfl)]; rfl
theorem gets_1 (b : Bs) (p : Pt) : getsF b p (mkS [] 1) = bytesF b p.hd.1 p.hd.2 := by rw [gets_nil b p (.inr (.inl rfl))]; rfl
theorem gets_4 (b : Bs) (p : Pt) : getsF b p (mkS [] 4) = bytesF b p.bd.1 p.bd.2 := by rw [gets_nil b p (.inr (.inr rfl))]; rfl
theorem check_one {n w : Int} (hw : w = 0 ∨ w = 5) (hn : 1 ≤ n ∧ n ≤ 4294967295) : checkF (mkS [n] w) = true := by
  have hi : inB 1 n = true := decide_eq_true hn
  rcases hw with rfl | rfl <;> simp [checkF, mkS, hi]
theorem find_one (p : Pt) (n : Int) : findP p [n] = belowF p n := by
  rw [findP]
  cases belowF p n with
  | none => rfl
  | some q => rfl
theorem gets_one0 (b : Bs) (p : Pt) {n : Int} (hn : 1 ≤ n ∧ n ≤ 4294967295) : getsF b p (mkS [n] 0) = match belowF p n with | none => [] | some q => bytesF b q.bd.1 q.bd.2 := by
  unfold getsF allF
  rw [if_neg (by simp [mkS]), if_pos (check_one (.inl rfl) hn), if_neg (by simp [mkS])]
  show (match findP p [n] with | none => [] | some q => _) = _
  rw [find_one]
  cases belowF p n with
  | none => rfl
  | some q => rfl
theorem gets_one5 (b : Bs) (p : Pt) {n : Int} (hn : 1 ≤ n ∧ n ≤ 4294967295) : getsF b p (mkS [n] 5) = match belowF p n with | none => [] | some q => bytesF b q.hd.1 q.hd.2 := by
  unfold getsF allF
  rw [if_neg (by simp [mkS]), if_pos (check_one (.inr rfl) hn), if_neg (by simp [mkS])]
  show (match findP p [n] with | none => [] | some q => _) = _
  rw [find_one]
  cases belowF p n with
  | none => rfl
  | some q => rfl
theorem aw1 : getsF awB awT ⟨[1], 0, [], false, 0, 0⟩ = [111, 110, 101] := by kernel_rfl
theorem aw2 : getsF awB awT ⟨[2, 1], 0, [], false, 0, 0⟩ = [116, 119, 111] := by kernel_rfl
theorem aw3 : getsF awB awT ⟨[2], 2, [subjN], false, 0, 0⟩ = [83, 117, 98, 106, 101, 99, 116, 58, 32, 115, 13, 10, 13, 10] := by kernel_rfl
theorem aw4 : getsF awB awT ⟨[1], 0, [], true, 1, 9⟩ = [110, 101] := by kernel_rfl
theorem aw5 : findP awT [3] = none := by kernel_rfl
theorem ret27 : Ret 27 [] [] (.bool true, []) := by
  have hl : awB.length ≤ 3000 := by simp [awB]
  have hc : cntF awT ≤ 1000000 := by rw [awCnt]; omega
  have g1 := ret28 awB hl awT hc ⟨[1], 0, [], false, 0, 0⟩ ⟨by simp, by simp, by simp⟩
  have g2 := ret28 awB hl awT hc ⟨[2, 1], 0, [], false, 0, 0⟩ ⟨by simp, by simp, by simp⟩
  have g3 := ret28 awB hl awT hc ⟨[2], 2, [subjN], false, 0, 0⟩ ⟨by simp, by simp [subjN], by simp⟩
  have g4 := ret28 awB hl awT hc ⟨[1], 0, [], true, 1, 9⟩ ⟨by simp, by simp, by simp⟩
  have g5 := ret36 awT hc [3] (by simp)
  rw [aw1] at g1
  rw [aw2] at g2
  rw [aw3] at g3
  rw [aw4] at g4
  rw [aw5, told_none] at g5
  refine M27 ?_
  refine evt_eq (g' := fun k _ => Option.bind (callN cfg k 15 [.lst 5 false (ofBytes awB)] []) fun z0 => _) (fun k n => by rw [T27]; rfl) ?_
  refine evt_bind awParse ?_
  simp only [getT_tup, List.headD_cons, List.tail_cons, getI_int, eta_part]
  refine evt_bind g1 ?_
  refine evt_bind g2 ?_
  refine evt_bind g3 ?_
  refine evt_bind g4 ?_
  refine evt_bind g5 ?_
  simp only [getL_lst, bytesOf_ofBytes, getT_tup, List.headD_cons, List.tail_cons, getB_bool, beq_self_eq_true, if_true, sEq, Bool.not_false]
  exact evt_some _
theorem ofB_by (b : Bs) (x y : Nat) : bytesOf (List.drop x (List.take y (ofBytes b))) = subF b x y := subB b x y
theorem sEq_refl (x : Bs) : sEq x x = true := by simp [sEq]
theorem loop10 (b : Bs) (hb : b.length ≤ 2000) (N : Nat) (hN : N < 65536) (T : Pt) (hc : cntF T ≤ 1000) (hk : T.kd = 1) (hq : ∀ q ∈ T.ks, SpanOk b q) : ∀ (m i : Nat), T.ks.length - i = m → i ≤ T.ks.length →
    Evt (fun k j => L10 (callN cfg k) j (ofBytes b) (N : Nat) (i : Nat) (T.kd : Nat) (T.hd.1 : Nat) (T.hd.2 : Nat) (T.bd.1 : Nat) (T.bd.2 : Nat) (T.ks.map partV) (T.cs.map cutV) (T.en.1 : Nat) (T.en.2 : Nat)) (.bool true, [])
  | 0, i, h, hi => by
    have hkl := cntL_len T.ks
    have hck := cnt_ks T
    refine N10_0 (ofBytes b) (N : Nat) (i : Nat) (T.kd : Nat) (T.hd.1 : Nat) (T.hd.2 : Nat) (T.bd.1 : Nat) (T.bd.2 : Nat) (T.ks.map partV) (T.cs.map cutV) (T.en.1 : Nat) (T.en.2 : Nat) ?_
    have h1 : ¬ (((i : Nat) : Int) < ((T.ks.length : Nat) : Int)) := by omega
    have hw : IntKind.wrap .i64 (IntKind.wrap .i64 (((T.ks.length : Nat) : Int) + 1) + IntKind.wrap .i64 ((N : Nat) : Int)) = ((T.ks.length + 1 + N : Nat) : Int) := by
      rw [wrapN N (by omega), wrap64 (n := ((T.ks.length : Nat) : Int) + 1) (by omega) (by omega), wrap64 (by omega) (by omega)]; omega
    have g := ret28 b (by omega) T (by omega) (mkS [((T.ks.length + 1 + N : Nat) : Int)] 0) (mkS_ok (by simp))
    have hbl : belowF T ((T.ks.length + 1 + N : Nat) : Int) = none := by unfold belowF; rw [if_pos hk, if_pos (.inr (by omega))]
    rw [gets_one0 b T (by omega), hbl] at g
    simp only [T10_0, h1, decide_false, Bool.false_eq_true, if_false, List.length_map, part_agg, hw]
    refine evt_bind g ?_
    exact evt_some _
  | m + 1, i, h, hi => by
    have hkl := cntL_len T.ks
    have hck := cnt_ks T
    have hlt : i < T.ks.length := by omega
    refine N10_0 (ofBytes b) (N : Nat) (i : Nat) (T.kd : Nat) (T.hd.1 : Nat) (T.hd.2 : Nat) (T.bd.1 : Nat) (T.bd.2 : Nat) (T.ks.map partV) (T.cs.map cutV) (T.en.1 : Nat) (T.en.2 : Nat) ?_
    have h1 : (((i : Nat) : Int) < ((T.ks.length : Nat) : Int)) := by omega
    have h2 : (0 : Int) ≤ (i : Nat) := by omega
    have hw : IntKind.wrap .i64 (((i : Nat) : Int) + 1) = ((i + 1 : Nat) : Int) := by rw [wrap64 (by omega) (by omega)]; omega
    have hbl : belowF T ((i + 1 : Nat) : Int) = some (T.ks.getD i zeroP) := by
      unfold belowF
      rw [if_pos hk, if_neg (by omega), Int.toNat_natCast, Nat.add_sub_cancel]
    have g5 := ret28 b (by omega) T (by omega) (mkS [((i + 1 : Nat) : Int)] 5) (mkS_ok (by simp))
    have g0 := ret28 b (by omega) T (by omega) (mkS [((i + 1 : Nat) : Int)] 0) (mkS_ok (by simp))
    rw [gets_one5 b T (by omega), hbl] at g5
    rw [gets_one0 b T (by omega), hbl] at g0
    obtain ⟨s1, s2, s3, s4⟩ := hq _ (getD_mem hlt)
    simp only [T10_0, h1, decide_true, if_true, chk_p h2, List.length_map, chk_t, Int.toNat_natCast, getD_ks hlt, cells_part, List.headD_cons, List.tail_cons, getI_int, hw, part_agg, ofBytes_length]
    generalize T.ks.getD i zeroP = q at *
    have k1 : ¬ (((q.hd.1 : Nat) : Int) < 0) := by omega
    have k2 : ¬ (((q.bd.2 : Nat) : Int) < ((q.hd.1 : Nat) : Int)) := by omega
    have k3 : ¬ (((q.bd.2 : Nat) : Int) > ((b.length : Nat) : Int)) := by omega
    have k4 : (0 : Int) ≤ (q.bd.2 : Nat) := by omega
    have k5 : ((q.bd.2 : Nat) : Int) ≤ ((b.length : Nat) : Int) := by omega
    have k6 : (0 : Int) ≤ (q.hd.1 : Nat) := by omega
    have k7 : ((q.hd.1 : Nat) : Int) ≤ ((q.bd.2 : Nat) : Int) := by omega
    have e5 : bytesF b q.hd.1 q.hd.2 = subF b q.hd.1 q.hd.2 := if_pos ⟨s2, by omega⟩
    have e0 : bytesF b q.bd.1 q.bd.2 = subF b q.bd.1 q.bd.2 := if_pos ⟨s3, s4⟩
    have ec : subF b q.hd.1 q.hd.2 ++ subF b q.bd.1 q.bd.2 = subF b q.hd.1 q.bd.2 := by rw [s1]; exact subF_cat b (by omega) s3 s4
    have hc1 : catOk (subF b q.hd.1 q.hd.2) (subF b q.bd.1 q.bd.2) = true := cat_ok (by have := subF_le b q.hd.1 q.hd.2; have := subF_le b q.bd.1 q.bd.2; omega)
    simp only [e5] at g5
    simp only [e0] at g0
    refine evt_bind g5 ?_
    refine evt_bind g0 ?_
    simp only [getL_lst, bytesOf_ofBytes, k1, k2, k3, decide_false, if_true, chk_b hc1, chk_p k4, chk_p k5, chk_p k6, chk_p k7, ofB_by, ec, sEq_refl, Bool.not_true, Bool.false_eq_true, if_false]
    exact loop10 b hb N hN T hc hk hq m (i + 1) (by omega) (by omega)
theorem ret10 (b : Bs) (n : Int) (hn : 0 ≤ n ∧ n < 65536) : Ret 10 [.lst 5 false (ofBytes b), .int .u16 n] [] (.bool true, []) := by
  obtain ⟨N, rfl⟩ : ∃ N : Nat, n = N := ⟨n.toNat, by omega⟩
  refine M10 (ofBytes b) (N : Nat) ?_
  simp only [T10]
  refine evt_bind ret27 ?_
  simp only [getB_bool, Bool.not_true, Bool.false_eq_true, if_false, ofBytes_length]
  by_cases hb : b.length ≤ 2000
  · have h1 : ¬ (((b.length : Nat) : Int) > 2000) := by omega
    simp only [h1, decide_false, Bool.false_eq_true, if_false]
    have r15 := ret15 b (by omega)
    have cT := entF_n b 32 0 b.length false 1 (by omega)
    have cT2 := entF_cnt b 32 0 b.length false 1
    obtain ⟨e1, e2⟩ := entF_hb b 32 0 b.length false 1
    have hsp := headF_span (fr := 0) (to := b.length) b (by omega)
    have hks := entF_ks b 32 0 b.length false 1 (by omega) (by omega)
    generalize (headF b ((0 : Nat) : Int) (b.length : Nat)).2.toNat = at_ at *
    generalize (entF b 32 0 b.length false 1).1 = T at *
    have hc : cntF T ≤ 1000 := by omega
    have g1 := ret28 b (by omega) T (by omega) (mkS [] 1) (mkS_ok (by simp))
    have g4 := ret28 b (by omega) T (by omega) (mkS [] 4) (mkS_ok (by simp))
    have g0 := ret28 b (by omega) T (by omega) (mkS [] 0) (mkS_ok (by simp))
    have f1 : getsF b T (mkS [] 1) = subF b 0 at_ := by rw [gets_1, e1]; exact if_pos ⟨by simp only; omega, by simp only; omega⟩
    have f4 : getsF b T (mkS [] 4) = subF b at_ b.length := by rw [gets_4, e2]; exact if_pos ⟨by simp only; omega, Nat.le_refl _⟩
    have f0 : getsF b T (mkS [] 0) = b := by rw [gets_0, e1, e2]; exact (if_pos ⟨by simp only; omega, Nat.le_refl _⟩).trans (subF_all b)
    rw [f1] at g1
    rw [f4] at g4
    rw [f0] at g0
    have hc1 : catOk (subF b 0 at_) (subF b at_ b.length) = true := cat_ok (by have := subF_le b 0 at_; have := subF_le b at_ b.length; omega)
    have ec : subF b 0 at_ ++ subF b at_ b.length = b := by rw [subF_cat b (by omega) hsp.2 (Nat.le_refl _), subF_all]
    have q0 : ((0 : Int) != (0 : Int)) = false := rfl
    refine evt_bind r15 ?_
    simp only [getT_tup, List.headD_cons, List.tail_cons, getI_int, eta_part]
    refine evt_bind g1 ?_
    refine evt_bind g4 ?_
    simp only [getL_lst, bytesOf_ofBytes, q0, if_true, chk_b hc1, ec, sEq_refl, Bool.not_true]
    refine evt_bind g0 ?_
    simp only [getL_lst, bytesOf_ofBytes, sEq_refl, Bool.not_true, Bool.false_eq_true, if_false, cells_part, List.headD_cons, List.tail_cons, getI_int, getL_lst]
    by_cases hk : T.kd = 1
    · have q1 : (((T.kd : Nat) : Int) != (1 : Int)) = false := by rw [hk]; rfl
      simp only [q1, Bool.false_eq_true, if_false]
      exact loop10 b hb N (by omega) T hc hk (hks hk) T.ks.length 0 (by omega) (by omega)
    · have q1 : (((T.kd : Nat) : Int) != (1 : Int)) = true := by
        have : ¬ (((T.kd : Nat) : Int) = 1) := by omega
        simpa using this
      have gp := ret28 b (by omega) T (by omega) (mkS [1] 0) (mkS_ok (by simp))
      have hw : IntKind.wrap .i64 ((2 : Int) + IntKind.wrap .i64 ((N : Nat) : Int)) = ((2 + N : Nat) : Int) := by rw [wrapN N (by omega), wrap64 (by omega) (by omega)]; omega
      have gn := ret28 b (by omega) T (by omega) (mkS [((2 + N : Nat) : Int)] 0) (mkS_ok (by simp))
      have b1 : belowF T 1 = some T := by unfold belowF; rw [if_neg hk, if_pos rfl]
      have bn : belowF T ((2 + N : Nat) : Int) = none := by unfold belowF; rw [if_neg hk, if_neg (by omega)]
      rw [gets_one0 b T (by omega), b1] at gp
      rw [gets_one0 b T (by omega), bn] at gn
      have e0 : bytesF b T.bd.1 T.bd.2 = subF b at_ b.length := by rw [e2]; exact if_pos ⟨by simp only; omega, Nat.le_refl _⟩
      simp only [e0] at gp
      simp only [q1, if_true, part_agg, hw]
      refine evt_bind gp ?_
      simp only [getL_lst, bytesOf_ofBytes, sEq_refl, if_true]
      refine evt_bind gn ?_
      exact evt_some _
  · have h1 : (((b.length : Nat) : Int) > 2000) := by omega
    simp only [h1, decide_true, if_true]
    exact evt_some _
end Go.Proofs.YtemgbdncidgoiaaDoor
end
section
namespace Go.Proofs.YtemgbdncidgoiaaDoor
open Go.ChangeShapes Go.WideShapes Go.ChangeAt Go.RowKit Go.Ev
theorem cells5 : Tryd.prog.cellsOf 5 = 1 := by kernel_rfl
theorem size5 : tySize cfg 5 = 1 := by kernel_rfl
theorem fits5 (n : Int) : fitsE cfg 5 (.int .u8 n) = true := by kernel_rfl
theorem flat_u8 (zs : List Int) : flat (zs.map (Value.int .u8)) = zs.map (Value.int .u8) := by
  induction zs with
  | nil => rfl
  | cons z zs ih => simp only [flat, List.map_cons, List.flatMap_cons, Value.cells] at ih ⊢; rw [ih]; rfl
theorem slice_block {P : Program} {w : World} {r : Reach} {base : Nat} {t e : TypeId} {a : Addr} {len cap : Nat} (ht : P.underlying t = some (.slice e)) (h : Value.okWide P w r base t (.slice (some a) len cap)) : a.block < w.heap.size := by
  simp only [Value.okWide, ht, Cell.okWide, Cell.ok] at h
  obtain ⟨_, _, _, _, row, cells, hs, _⟩ := h
  unfold World.shape? at hs
  by_cases hb : a.block < w.heap.size
  · exact hb
  · rw [Array.getElem?_eq_none (by omega)] at hs
    simp at hs
set_option maxRecDepth 100000 in
theorem bytes_in {H : Type} {enc : TypeId × Value → H} {W : World} {base : Nat} {v : Value} {d : DataW H} {p : List MemPlace} (hval : Value.okWide Tryd.prog W .any base 32 v)
    (h : DataW.Trod enc Tryd.prog W 0 (fun _ => true) true 32 v d p) :
    ∃ vs : List UInt8, Rep cfg W (sizes W) [] (.lst 5 false (ofBytes vs)) v ∧
      ∀ W', Kept W W' → ∀ sp : Nat → Bool, (∀ x ∈ p, sp x.block = true) → DataW.Trod enc Tryd.prog W' 0 sp true 32 v d p := by
  obtain ⟨a1, len, cap, rfl⟩ := okWide_slice Tryd.underlying32 hval
  obtain ⟨fuel, hf⟩ := h
  rcases open_ints Tryd.underlying32 Tryd.underlying5 cells5 hf with ⟨hcs, hx⟩ | ⟨a, len', cap', zs, hcs, _, hl, hm, hz, hx, hcell, hwz⟩
  · simp [Value.cells] at hcs
    obtain ⟨rfl, rfl, rfl⟩ := hcs
    simp only [Prod.mk.injEq] at hx
    obtain ⟨rfl, rfl⟩ := hx
    refine ⟨[], ?_, fun W' _ sp _ => shut_slice_nil Tryd.underlying32⟩
    exact Rep.lst 5 false [] none 0 [] rfl (fun i v x h => by simp at h) (fun v h => by cases h) (fun x h => by cases h) (by rw [size5]; omega) (Nat.le_refl _) ⟨fun _ => rfl, fun p h => by cases h⟩ (fun p h => by cases h)
  · simp [Value.cells] at hcs
    obtain ⟨rfl, rfl, rfl⟩ := hcs
    simp only [Prod.mk.injEq] at hx
    obtain ⟨rfl, rfl⟩ := hx
    have hblk : a.block < W.heap.size := slice_block Tryd.underlying32 hval
    have hsn : some a = none → cap = 0 := fun h => by cases h
    have hsb : ∀ p, some a = some p → p.block < W.heap.size := fun p hp => by cases hp; exact hblk
    simp only [if_true] at hz
    have hrng : ∀ n ∈ zs, 0 ≤ n ∧ n < 256 := fun n hn => by have := bounds_u8 (hwz n hn); omega
    refine ⟨(zs.take len).map fun n => UInt8.ofNat n.toNat, ?_, fun W' hk sp hsp => ?_⟩
    · have hxs : ofBytes ((zs.take len).map fun n => UInt8.ofNat n.toNat) = (zs.take len).map (V.int .u8) := by
        unfold ofBytes
        rw [List.map_map]
        refine List.map_congr_left fun n hn => ?_
        have := hrng n (List.mem_of_mem_take hn)
        simp only [Function.comp, UInt8.toNat_ofNat']
        congr 1
        omega
      have hlen : (ofBytes ((zs.take len).map fun n => UInt8.ofNat n.toNat)).length = len := by rw [hxs]; simp; omega
      have := Rep.lst (c := cfg) (w := W) (G := sizes W) (μ := []) 5 false (ofBytes ((zs.take len).map fun n => UInt8.ofNat n.toNat)) (some a) cap ((zs.take len).map (Value.int .u8)) (by rw [hlen]; simp; omega) (fun i v x hv hx => by
          rw [hxs] at hv
          obtain ⟨n, h1, rfl⟩ := get_map hv
          obtain ⟨n', h2, rfl⟩ := get_map hx
          rw [h1] at h2; cases h2
          exact .int _ _) (fun v hv => by
          rw [hxs] at hv
          obtain ⟨n, _, rfl⟩ := List.mem_map.1 hv
          exact fits5 n) (fun x hx => by
          obtain ⟨n, _, rfl⟩ := List.mem_map.1 hx
          rw [size5]; rfl) (by rw [size5]; omega) (by rw [hlen]; exact hl) ⟨hsn, hsb⟩ (fun p hp hne => by
          cases hp
          have hl0 : 0 < len := by
            rcases Nat.eq_zero_or_pos len with h0 | h0
            · exact absurd (List.eq_nil_of_length_eq_zero (hlen.trans h0)) hne
            · exact h0
          obtain ⟨ab, ao, spot⟩ := a
          have hspot : spot = none := by simpa [Addr.add] using World.cell?_spot (hcell 0 (by omega))
          subst hspot
          refine ⟨rfl, ?_⟩
          rw [flat_u8]
          refine srow_sizes fun j x hj => ?_
          have hjl := (List.getElem?_eq_some_iff.1 hj).1
          rw [List.length_map, List.length_take] at hjl
          have hjl : j < len ∧ j < zs.length := by omega
          have hc := hcell j (by omega)
          rw [Addr.add_lit] at hc
          rw [hc]
          rw [List.getElem?_map, List.getElem?_take, if_pos hjl.1, List.getElem?_eq_getElem hjl.2] at hj
          simp at hj
          rw [← hj]; simp [List.getD, hjl.2])
      rw [hlen] at this
      exact this
    · have hzl : zs.length = (if sp a.block then cap else len) := by
        rcases Nat.eq_zero_or_pos zs.length with h0 | h0
        · split <;> omega
        · have : sp a.block = true := hsp (.cell a.block (a.off + 0)) (by simp only [MemPlace.row, List.mem_map, List.mem_range]; exact ⟨0, h0, rfl⟩)
          rw [if_pos this]; exact hz
      exact ⟨2, shut_ints 0 Tryd.underlying32 Tryd.underlying5 cells5 (Nat.zero_le _) hl hm hzl (fun i hi => hk.cell _ _ (hcell i hi)) hwz⟩
end Go.Proofs.YtemgbdncidgoiaaDoor
end
