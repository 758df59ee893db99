/- What the functions of params give: quoted texts, values, pairs. -/
import Derived.Test.YtmhhcoccfojiiaaDoorSayB
namespace Go.Proofs.YtmhhcoccfojiiaaDoor
open Go.Ev Go

/-- A quoted text behind its first quote, and what stands behind its last. -/
def quoF : Bs → Option (Bs × Bs)
  | [] => none
  | [c] => if c = 34 then some ([], []) else none
  | c :: x :: r => if c = 34 then some ([], x :: r) else if c = 92 then (quoF r).map fun p => (x :: p.1, p.2) else (quoF (x :: r)).map fun p => (c :: p.1, p.2)
theorem quoF_cons (c : UInt8) (r : Bs) : quoF (c :: r) =
    if c = 34 then some ([], r) else if c = 92 then (match r with | [] => none | x :: r' => (quoF r').map fun p => (x :: p.1, p.2)) else (quoF r).map fun p => (c :: p.1, p.2) := by
  cases r with
  | nil =>
    rw [quoF, quoF]
    by_cases h : c = 34
    · simp [h]
    · simp [h]
  | cons x r => rw [quoF]
theorem quoF_le : ∀ (n : Nat) (s t r : Bs), s.length ≤ n → quoF s = some (t, r) → t.length + r.length < s.length
  | _, [], t, r, _, h => by simp [quoF] at h
  | 0, c :: s, t, r, h, _ => by simp at h
  | n + 1, c :: s, t, r, h, hq => by
    rw [quoF_cons] at hq
    simp at h
    split at hq
    · cases hq; simp
    · split at hq
      · cases s with
        | nil => cases hq
        | cons x s =>
          simp at hq h
          obtain ⟨a, hp, rfl⟩ := hq
          have := quoF_le n s a r (by omega) hp
          simp; omega
      · simp at hq
        obtain ⟨a, hp, rfl⟩ := hq
        have := quoF_le n s a r (by omega) hp
        simp; omega

theorem loop50 (s : Bs) (hs : s.length ≤ 1000000) : ∀ (n i : Nat) (out : Bs), s.length - i ≤ n → out.length ≤ i →
    ∃ rest, Evt (fun k n => L50 (callN cfg k) n (ofBytes out) (i : Nat) s) (match quoF (s.drop i) with
      | some (t, r) => (.tup [.str (out ++ t), .bool true], [.cells [.str r]])
      | none => (.tup [.str [], .bool false], [.cells [.str rest]])) := by
  have fin : ∀ (i : Nat) (out : Bs), s.length ≤ i → ∃ rest, Evt (fun k n => L50 (callN cfg k) n (ofBytes out) (i : Nat) s) (match quoF (s.drop i) with
      | some (t, r) => (.tup [.str (out ++ t), .bool true], [.cells [.str r]])
      | none => (.tup [.str [], .bool false], [.cells [.str rest]])) := by
    intro i out h
    rw [List.drop_eq_nil_of_le h]
    refine ⟨s, N50_0 (ofBytes out) (i : Nat) s ?_⟩
    have h1 : ¬ ((i : Int) < (s.length : Int)) := by omega
    simp only [T50_0, h1, decide_false, Bool.false_eq_true, if_false, quoF]
    exact evt_some _
  intro n
  induction n with
  | zero => intro i out h _; exact fin i out (by omega)
  | succ n ih =>
    intro i out h ho
    by_cases hlt : i < s.length
    · have h1 : ((i : Int) < (s.length : Int)) := by omega
      have h2 : (0 : Int) ≤ (i : Int) := by omega
      have hw : IntKind.wrap .i64 ((i : Int) + 1) = ((i + 1 : Nat) : Int) := by rw [wrap64 (by omega) (by omega)]; omega
      have hw2 : IntKind.wrap .i64 (((i + 1 : Nat) : Int) + 1) = ((i + 2 : Nat) : Int) := by rw [wrap64 (by omega) (by omega)]; omega
      have h3 : (0 : Int) ≤ ((i + 1 : Nat) : Int) := by omega
      have h4 : ((i + 1 : Nat) : Int) ≤ (s.length : Int) := by omega
      have e34 : (((s[i].toNat : Nat) : Int) == (34 : Int)) = (s[i] == 34) := intB_lit s[i] 34 (by omega)
      have e92 : (((s[i].toNat : Nat) : Int) == (92 : Int)) = (s[i] == 92) := intB_lit s[i] 92 (by omega)
      rw [drop_at hlt, quoF_cons]
      by_cases c34 : s[i] = 34
      · refine ⟨[], N50_0 (ofBytes out) (i : Nat) s ?_⟩
        simp only [T50_0, h1, decide_true, if_true, chk_p h2, chk_t, Int.toNat_natCast, getD_at hlt, e34, c34, beq_self_eq_true, hw, chk_p h3, chk_p h4, bytesOf_ofBytes, List.append_nil]
        exact evt_some _
      · have b34 : (s[i] == 34) = false := by simpa using c34
        by_cases c92 : s[i] = 92
        · by_cases hlt2 : i + 1 < s.length
          · have h5 : ((i + 1 : Nat) : Int) < (s.length : Int) := by omega
            have hap : appOk (ofBytes out) [V.int IntKind.u8 ((s[i+1].toNat : Nat) : Int)] 2 = true := app_ok (by simp [ofBytes_length]; omega)
            obtain ⟨rest, g⟩ := ih (i + 2) (out ++ [s[i+1]]) (by omega) (by simp; omega)
            refine ⟨rest, N50_0 (ofBytes out) (i : Nat) s ?_⟩
            have g34 : ¬ ((92 : UInt8) = 34) := by decide
            rw [if_neg (by rw [c92]; exact g34), if_pos c92, drop_at hlt2]
            simp only [T50_0, h1, decide_true, if_true, chk_p h2, chk_t, Int.toNat_natCast, getD_at hlt, e34, b34, Bool.false_eq_true, if_false, e92, c92, beq_self_eq_true, hw, h5, chk_p h3, getD_at hlt2, chk_b hap, hw2, ofBytes_snoc]
            cases hq : quoF (s.drop (i + 2)) with
            | none => rw [hq] at g; simpa [hq] using g
            | some p => rw [hq] at g; simpa [hq] using g
          · have h5 : ¬ (((i + 1 : Nat) : Int) < (s.length : Int)) := by omega
            obtain ⟨rest, g⟩ := fin (i + 2) out (by omega)
            refine ⟨rest, N50_0 (ofBytes out) (i : Nat) s ?_⟩
            have g34 : ¬ ((92 : UInt8) = 34) := by decide
            rw [if_neg (by rw [c92]; exact g34), if_pos c92, List.drop_eq_nil_of_le (by omega : s.length ≤ i + 1)]
            rw [List.drop_eq_nil_of_le (by omega : s.length ≤ i + 2)] at g
            simp only [T50_0, h1, decide_true, decide_false, if_true, chk_p h2, chk_t, Int.toNat_natCast, getD_at hlt, e34, b34, Bool.false_eq_true, if_false, e92, c92, beq_self_eq_true, hw, h5, hw2]
            exact g
        · have b92 : (s[i] == 92) = false := by simpa using c92
          have hap : appOk (ofBytes out) [V.int IntKind.u8 ((s[i].toNat : Nat) : Int)] 2 = true := app_ok (by simp [ofBytes_length]; omega)
          obtain ⟨rest, g⟩ := ih (i + 1) (out ++ [s[i]]) (by omega) (by simp; omega)
          refine ⟨rest, N50_0 (ofBytes out) (i : Nat) s ?_⟩
          rw [if_neg c34, if_neg c92]
          simp only [T50_0, h1, decide_true, if_true, chk_p h2, chk_t, Int.toNat_natCast, getD_at hlt, e34, b34, Bool.false_eq_true, if_false, e92, b92, hw, chk_b hap, ofBytes_snoc]
          cases hq : quoF (s.drop (i + 1)) with
          | none => rw [hq] at g; simpa [hq] using g
          | some p => rw [hq] at g; simpa [hq] using g
    · exact fin i out (by omega)
theorem ret50 (s : Bs) (hs : s.length ≤ 1000000) : ∃ rest, Ret 50 [.agg [.ref 0 0]] [.cells [.str s]] (match quoF (s.drop 1) with
      | some (t, r) => (.tup [.str t, .bool true], [.cells [.str r]])
      | none => (.tup [.str [], .bool false], [.cells [.str rest]])) := by
  obtain ⟨rest, g⟩ := loop50 s hs s.length 1 [] (by omega) (by simp)
  refine ⟨rest, M50 s ?_⟩
  simp only [T50]
  exact g

/-- A value, and what stands behind it. -/
def valF (s : Bs) : Option (Bs × Bs) :=
  if s.head? = some 34 then quoF (s.drop 1) else if (tokF s).1 = [] then none else some (tokF s)
theorem tokF_le (s : Bs) : (tokF s).1.length + (tokF s).2.length = s.length := by
  have := List.takeWhile_append_dropWhile (p := tokB) (l := s)
  have h := congrArg List.length this
  rw [List.length_append] at h
  exact h
theorem valF_le {s t r : Bs} (h : valF s = some (t, r)) : t.length + r.length ≤ s.length := by
  unfold valF at h
  split at h
  · have := quoF_le _ _ t r (Nat.le_refl _) h
    simp at this; omega
  · split at h
    · cases h
    · have := tokF_le s
      have e : tokF s = (t, r) := by injection h
      rw [e] at this; exact Nat.le_of_eq this
theorem ret35 (s : Bs) (hs : s.length ≤ 1000000) : ∃ rest, Ret 35 [.agg [.ref 0 0]] [.cells [.str s]] (match valF s with
      | some (t, r) => (.tup [.str t, .bool true], [.cells [.str r]])
      | none => (.tup [.str [], .bool false], [.cells [.str rest]])) := by
  have e34 : ((((s.getD 0 0).toNat : Nat) : Int) == (34 : Int)) = (s.head? == some 34) := by
    rw [show (34 : Int) = ((34 : Nat) : Int) from rfl, intB_lit _ 34 (by omega)]
    cases s with
    | nil => decide
    | cons c r => simp
  by_cases h : s.head? = some 34
  · obtain ⟨rest, g⟩ := ret50 s hs
    refine ⟨rest, M35 s ?_⟩
    simp only [T35]
    refine evt_bind (ret30 s 0) ?_
    simp only [V.getI, e34, h, beq_self_eq_true, if_true]
    refine evt_bind g ?_
    unfold valF
    rw [if_pos h]
    cases quoF (s.drop 1) with
    | none => exact evt_some _
    | some p => exact evt_some _
  · refine ⟨(tokF s).2, M35 s ?_⟩
    have hb : (s.head? == some 34) = false := by simpa using h
    simp only [T35]
    refine evt_bind (ret30 s 0) ?_
    simp only [V.getI, e34, hb, Bool.false_eq_true, if_false]
    refine evt_bind (ret18 s hs) ?_
    unfold valF
    rw [if_neg h]
    simp only [V.getS, List.headD_cons, Ob.getC, sEq]
    by_cases ht : (tokF s).1 = []
    · rw [if_pos ht, ht]
      exact evt_some _
    · rw [if_neg ht]
      have : ((tokF s).1 == []) = false := by simpa using ht
      rw [this]
      exact evt_some _

abbrev Ps := List (Bs × Bs)
/-- Parameters as values of the program. -/
def pV (p : Bs × Bs) : V := .agg [.str p.1, .str p.2]

/-- All names with their values. -/
def pairsF (s : Bs) : Ps :=
  match h1 : byteF 59 s with
  | none => []
  | some s1 =>
    if (tokF s1).1 = [] then []
    else match h2 : byteF 61 (tokF s1).2 with
      | none => []
      | some s3 => match h3 : valF s3 with
        | none => []
        | some (v, s4) => ((tokF s1).1.map low8, v) :: pairsF s4
termination_by s.length
decreasing_by
  have g1 := byteF_le h1
  have g2 := tokF_le s1
  have g3 := byteF_le h2
  have g4 := valF_le h3
  omega

theorem pairsF_eq (s : Bs) : pairsF s = match byteF 59 s with
    | none => []
    | some s1 => if (tokF s1).1 = [] then [] else match byteF 61 (tokF s1).2 with
      | none => []
      | some s3 => match valF s3 with
        | none => []
        | some (v, s4) => ((tokF s1).1.map low8, v) :: pairsF s4 := by
  rw [pairsF]
  split
  · rename_i h1; simp only [h1]
  · rename_i s1 h1
    simp only [h1]
    split
    · rfl
    · split
      · rename_i h2; simp only [h2]
      · rename_i s3 h2
        simp only [h2]
        split
        · rename_i h3; simp only [h3]
        · rename_i v s4 h3; simp only [h3]
theorem ret20_aux : ∀ (n : Nat) (s : Bs) (l : Ps), s.length ≤ n → s.length ≤ 1000000 → l.length + s.length ≤ 1000000 →
    ∃ rest, Evt (fun k n => L20 (callN cfg k) n (l.map pV) s) (.lst 42 false ((l ++ pairsF s).map pV), [.cells [.str rest]]) := by
  intro n
  induction n with
  | zero =>
    intro s l h hs hl
    have : s = [] := List.eq_nil_of_length_eq_zero (by omega)
    subst this
    have hb : byteF 59 [] = none := by simp [byteF, skipF_nil]
    refine ⟨skipF [], N20_0 (l.map pV) [] ?_⟩
    simp only [T20_0]
    refine evt_bind (ret19 [] hs 59 (by decide)) ?_
    rw [pairsF_eq]
    simp only [hb, byteR, Option.isSome_none, V.getB, Bool.false_eq_true, if_false, List.append_nil, List.headD_cons, Ob.getC, V.getS]
    exact evt_some _
  | succ n ih =>
    intro s l h hs hl
    rw [pairsF_eq]
    cases h1 : byteF 59 s with
    | none =>
      refine ⟨skipF s, N20_0 (l.map pV) s ?_⟩
      simp only [T20_0]
      refine evt_bind (ret19 s hs 59 (by decide)) ?_
      simp only [h1, byteR, Option.isSome_none, V.getB, Bool.false_eq_true, if_false, List.append_nil, List.headD_cons, Ob.getC, V.getS]
      exact evt_some _
    | some s1 =>
      have g1 := byteF_le h1
      have g2 := tokF_le s1
      have hsl : s1.length ≤ 1000000 := by omega
      have hln : ((tokF s1).1.map low8 = []) ↔ (tokF s1).1 = [] := List.map_eq_nil_iff
      have start : ∀ {r : V × List Ob}, Evt (fun k n => 
          if sEq ((tokF s1).1.map low8) [] = false then
            Option.bind (callN cfg k 19 [(V.agg [(V.ref 0 0)]), (V.int IntKind.u8 (61 : Int))] [(Ob.cells [(V.str (tokF s1).2)])]) fun p3 =>
            if (!(V.getB p3.1)) = true then
              some ((V.lst 42 false (l.map pV)), [(Ob.cells [(V.str (V.getS (List.headD (Ob.getC (List.headD p3.2 Ob.dead)) V.bot)))])])
            else
              Option.bind (callN cfg k 35 [(V.agg [(V.ref 0 0)])] [(Ob.cells [(V.str (V.getS (List.headD (Ob.getC (List.headD p3.2 Ob.dead)) V.bot)))])]) fun p4 =>
              if (!(V.getB (List.headD (List.tail (V.getT p4.1)) V.bot))) = true then
                some ((V.lst 42 false (l.map pV)), [(Ob.cells [(V.str (V.getS (List.headD (Ob.getC (List.headD p4.2 Ob.dead)) V.bot)))])])
              else
                chk (appOk (l.map pV) [(V.agg [(V.str ((tokF s1).1.map low8)), (V.str (V.getS (List.headD (V.getT p4.1) V.bot)))])] 33) (L20 (callN cfg k) n ((l.map pV ++ [(V.agg [(V.str ((tokF s1).1.map low8)), (V.str (V.getS (List.headD (V.getT p4.1) V.bot)))])])) ((V.getS (List.headD (Ob.getC (List.headD p4.2 Ob.dead)) V.bot))))
          else
            some ((V.lst 42 false (l.map pV)), [(Ob.cells [(V.str (tokF s1).2)])])) r → Evt (fun k n => L20 (callN cfg k) n (l.map pV) s) r := by
        intro r hr
        refine N20_0 (l.map pV) s ?_
        simp only [T20_0]
        refine evt_bind (ret19 s hs 59 (by decide)) ?_
        simp only [h1, byteR, Option.isSome_some, V.getB, if_true, List.headD_cons, Ob.getC, V.getS]
        refine evt_bind (ret18 s1 hsl) ?_
        simp only [V.getS, List.headD_cons, Ob.getC]
        refine evt_bind (ret17 _ (by omega)) ?_
        exact hr
      by_cases ht : (tokF s1).1 = []
      · refine ⟨(tokF s1).2, start ?_⟩
        have hse : sEq ((tokF s1).1.map low8) [] = true := by simp [sEq, ht]
        simp only [ht, if_true, List.append_nil]
        rw [ht] at hse
        simp only [hse, Bool.true_eq_false, if_false]
        exact evt_some _
      · have hse : sEq ((tokF s1).1.map low8) [] = false := by simp [sEq, ht]
        have h19 := ret19 (tokF s1).2 (by omega) 61 (by decide)
        simp only [ht, if_false]
        cases h2 : byteF 61 (tokF s1).2 with
        | none =>
          refine ⟨skipF (tokF s1).2, start ?_⟩
          simp only [hse, if_true]
          refine evt_bind h19 ?_
          simp only [h2, byteR, Option.isSome_none, V.getB, Bool.not_false, if_true, List.append_nil, List.headD_cons, Ob.getC, V.getS]
          exact evt_some _
        | some s3 =>
          have g3 := byteF_le h2
          obtain ⟨rest, h35⟩ := ret35 s3 (by omega)
          cases h3 : valF s3 with
          | none =>
            refine ⟨rest, start ?_⟩
            simp only [hse, if_true]
            refine evt_bind h19 ?_
            simp only [h2, byteR, Option.isSome_some, V.getB, Bool.not_true, Bool.false_eq_true, if_false, List.headD_cons, Ob.getC, V.getS]
            refine evt_bind h35 ?_
            simp only [h3, V.getT, List.tail_cons, List.headD_cons, V.getB, Bool.not_false, if_true, List.append_nil, Ob.getC, V.getS]
            exact evt_some _
          | some p =>
            obtain ⟨v, s4⟩ := p
            have g4 := valF_le h3
            obtain ⟨rest', hrec⟩ := ih s4 (l ++ [((tokF s1).1.map low8, v)]) (by omega) (by omega) (by simp; omega)
            refine ⟨rest', start ?_⟩
            simp only [hse, if_true]
            refine evt_bind h19 ?_
            simp only [h2, byteR, Option.isSome_some, V.getB, Bool.not_true, Bool.false_eq_true, if_false, List.headD_cons, Ob.getC, V.getS]
            refine evt_bind h35 ?_
            have hap : appOk (l.map pV) [V.agg [V.str ((tokF s1).1.map low8), V.str v]] 33 = true := app_ok (by simp; omega)
            simp only [h3, V.getT, List.tail_cons, List.headD_cons, V.getB, Bool.not_true, Bool.false_eq_true, if_false, Ob.getC, V.getS, chk_b hap]
            have e : (l ++ [((tokF s1).1.map low8, v)]).map pV = l.map pV ++ [V.agg [V.str ((tokF s1).1.map low8), V.str v]] := by simp [pV]
            rw [e] at hrec
            simpa using hrec
theorem ret20 (s : Bs) (hs : s.length ≤ 1000000) : ∃ rest, Ret 20 [.agg [.ref 0 0]] [.cells [.str s]] (.lst 42 false ((pairsF s).map pV), [.cells [.str rest]]) := by
  obtain ⟨rest, g⟩ := ret20_aux s.length s [] (Nat.le_refl _) hs (by simpa using hs)
  refine ⟨rest, M20 s ?_⟩
  simp only [T20]
  exact g
end Go.Proofs.YtmhhcoccfojiiaaDoor
