/- What the exported functions of params give. -/
import Derived.Test.YtmhhcoccfojiiaaDoorSayF
namespace Go.Proofs.YtmhhcoccfojiiaaDoor
open Go.Ev Go

theorem pairsF_small : ∀ (n : Nat) (s : Bs), s.length ≤ n → (pairsF s).length ≤ s.length ∧ ∀ p ∈ pairsF s, p.1.length ≤ s.length ∧ p.2.length ≤ s.length := by
  intro n
  induction n with
  | zero =>
    intro s h
    have : s = [] := List.eq_nil_of_length_eq_zero (by omega)
    subst this
    have hb : byteF 59 [] = none := by simp [byteF, skipF_nil]
    rw [pairsF_eq]; simp [hb]
  | succ n ih =>
    intro s h
    rw [pairsF_eq]
    cases h1 : byteF 59 s with
    | none => simp
    | some s1 =>
      have g1 := byteF_le h1
      have g2 := tokF_le s1
      dsimp only
      split
      · simp
      · cases h2 : byteF 61 (tokF s1).2 with
        | none => simp
        | some s3 =>
          have g3 := byteF_le h2
          dsimp only
          cases h3 : valF s3 with
          | none => simp
          | some p =>
            obtain ⟨v, s4⟩ := p
            have g4 := valF_le h3
            obtain ⟨e1, e2⟩ := ih s4 (by omega)
            dsimp only
            refine ⟨by rw [List.length_cons]; omega, fun p hp => ?_⟩
            rw [List.mem_cons] at hp
            rcases hp with rfl | hp
            · simp only [List.length_map]; omega
            · have := e2 p hp; omega

theorem same_str (a b : Bs) : (Sc.str a).same (.str b) = (a == b) := rfl
theorem getB_put (x y : Bs) : ∀ m : List (Sc × Sc), Sc.getB (mget (.str x) (mput (.str y) (.bool true) m)) = (x == y || Sc.getB (mget (.str x) m))
  | [] => by
    simp only [mput, mget, same_str]
    by_cases h : x = y
    · simp [h, Sc.getB]
    · simp [h, Sc.getB]
  | (k, u) :: m => by
    have ih := getB_put x y m
    simp only [mput]
    cases hk : (Sc.str y).same k
    · simp only [Bool.false_eq_true, if_false, mget]
      cases hx : (Sc.str x).same k
      · simp only [Bool.false_eq_true, if_false]; exact ih
      · simp only [if_true]
        have : (x == y) = false := by
          cases k with
          | str b =>
            rw [same_str] at hk hx
            have e := eq_of_beq hx
            subst e
            cases hxy : (x == y) with
            | false => rfl
            | true => have e := eq_of_beq hxy; subst e; simp at hk
          | _ => cases hx
        rw [this, Bool.false_or]
    · simp only [if_true, mget]
      cases k with
      | str b =>
        rw [same_str] at hk
        have e := eq_of_beq hk
        subst e
        simp only [same_str]
        by_cases h : x = y
        · simp [h, Sc.getB]
        · simp [h]
      | _ => cases hk

/-- The parameters of some pairs, each base once. -/
def parP (l : Ps) : List Bs → Ps → Ps
  | _, [] => []
  | seen, p :: r =>
    if baseF p.1 = [] ∨ baseF p.1 ∈ seen then parP l seen r
    else match toldF l (baseF p.1) with
      | some x => (baseF p.1, x) :: parP l (baseF p.1 :: seen) r
      | none => parP l (baseF p.1 :: seen) r

theorem loop8 (l : Ps) (hl : l.length ≤ 1000000) (hv : ∀ p ∈ l, p.1.length ≤ 1000000 ∧ p.2.length ≤ 1000000) (s4 s5 s7 t u : Bs) (l6 : List V) : ∀ (n i : Nat) (out : Ps) (seen : List Bs) (m : List (Sc × Sc)),
    l.length - i ≤ n → out.length ≤ i → (∀ x, Sc.getB (mget (.str x) m) = decide (x ∈ seen)) →
    Evt (fun k j => L8 (callN cfg k) j (l.map pV) (l.map pV) (l.length : Nat) (i : Nat) s4 s5 l6 s7 t u (out.map pV) m) (.tup [.agg [.str t, .str u, .lst 42 false ((out ++ parP l seen (l.drop i)).map pV)], .bool true], []) := by
  have fin : ∀ (i : Nat) (out : Ps) (seen : List Bs) (m : List (Sc × Sc)), l.length ≤ i →
      Evt (fun k j => L8 (callN cfg k) j (l.map pV) (l.map pV) (l.length : Nat) (i : Nat) s4 s5 l6 s7 t u (out.map pV) m) (.tup [.agg [.str t, .str u, .lst 42 false ((out ++ parP l seen (l.drop i)).map pV)], .bool true], []) := by
    intro i out seen m h
    refine N8_0 (l.map pV) (l.map pV) (l.length : Nat) (i : Nat) s4 s5 l6 s7 t u (out.map pV) m ?_
    have h1 : ¬ ((i : Int) < (l.length : Int)) := by omega
    rw [List.drop_eq_nil_of_le h]
    simp only [T8_0, h1, decide_false, Bool.false_eq_true, if_false, parP, List.append_nil]
    exact evt_some _
  intro n
  induction n with
  | zero => intro i out seen m h _ _; exact fin i out seen m (by omega)
  | succ n ih =>
    intro i out seen m h ho hm
    by_cases hlt : i < l.length
    · refine N8_0 (l.map pV) (l.map pV) (l.length : Nat) (i : Nat) s4 s5 l6 s7 t u (out.map pV) m ?_
      have h1 : ((i : Int) < (l.length : Int)) := by omega
      have h2 : (0 : Int) ≤ (i : Int) := by omega
      have hw : IntKind.wrap .i64 ((i : Int) + 1) = ((i + 1 : Nat) : Int) := by rw [wrap64 (by omega) (by omega)]; omega
      have hd : l.drop i = l[i] :: l.drop (i + 1) := List.drop_eq_getElem_cons hlt
      have hpv := hv l[i] (List.getElem_mem hlt)
      have hvv : ∀ p ∈ l, p.2.length ≤ 1000000 := fun p hp => (hv p hp).2
      obtain ⟨r, b, h21⟩ := ret21 l[i].1 hpv.1
      rw [hd, parP]
      simp only [T8_0, h1, decide_true, if_true, chk_p h2, List.length_map, chk_t, Int.toNat_natCast, getD_pV hlt, pV, V.cells, List.headD_cons, List.tail_cons, V.getS]
      refine evt_bind h21 ?_
      simp only [V.getT, V.getS, List.headD_cons, hm, sEq, hw]
      have hskip : (if (baseF l[i].1 == []) = false then some (decide (baseF l[i].1 ∈ seen)) else some true) = some (decide (baseF l[i].1 = [] ∨ baseF l[i].1 ∈ seen)) := by
        by_cases e : baseF l[i].1 = []
        · simp [e]
        · have : (baseF l[i].1 == []) = false := by simpa using e
          simp [e]
      rw [hskip]
      simp only [bind_s]
      by_cases hs : baseF l[i].1 = [] ∨ baseF l[i].1 ∈ seen
      · simp only [hs, decide_true, if_true]
        exact ih (i + 1) out seen m (by omega) (by omega) hm
      · simp only [hs, decide_false, Bool.false_eq_true, if_false]
        refine evt_bind (ret22 l (baseF l[i].1) hl hvv (Nat.le_trans (baseF_le _) hpv.1)) ?_
        have hm' : ∀ x, Sc.getB (mget (.str x) (mput (.str (baseF l[i].1)) (.bool true) m)) = decide (x ∈ baseF l[i].1 :: seen) := by
          intro x
          rw [getB_put, hm]
          by_cases e : x = baseF l[i].1
          · simp [e]
          · have : (x == baseF l[i].1) = false := by simpa using e
            rw [this]; simp [e]
        simp only [V.getT, V.getB, V.getS, List.headD_cons, List.tail_cons]
        cases ht : toldF l (baseF l[i].1) with
        | none =>
          simp only [Option.isSome_none, Bool.false_eq_true, if_false]
          exact ih (i + 1) out (baseF l[i].1 :: seen) _ (by omega) (by omega) hm'
        | some x =>
          have hap : appOk (out.map pV) [V.agg [V.str (baseF l[i].1), V.str x]] 33 = true := app_ok (by simp; omega)
          simp only [Option.isSome_some, if_true, Option.getD_some]
          simp only [chk_b hap]
          have := ih (i + 1) (out ++ [(baseF l[i].1, x)]) (baseF l[i].1 :: seen) _ (by omega) (by simp; omega) hm'
          simpa [pV] using this
    · exact fin i out seen m (by omega)

/-- A text's value: its type's two parts, and parameters. -/
def parseF (s : Bs) (two : Bool) : Option (Bs × Bs × Ps) :=
  if (tokF (skipF s)).1 = [] then none
  else if two then match byteF 47 (tokF (skipF s)).2 with
    | none => none
    | some s2 => if (tokF s2).1 = [] then none else some ((tokF (skipF s)).1.map low8, (tokF s2).1.map low8, parP (pairsF (tokF s2).2) [] (pairsF (tokF s2).2))
  else some ((tokF (skipF s)).1.map low8, [], parP (pairsF (tokF (skipF s)).2) [] (pairsF (tokF (skipF s)).2))
/-- What stands for it. -/
def parseV : Option (Bs × Bs × Ps) → V
  | none => .tup [.agg [.str [], .str [], .lst 42 false []], .bool false]
  | some (t, u, ps) => .tup [.agg [.str t, .str u, .lst 42 false (ps.map pV)], .bool true]

theorem ret8_end (s : Bs) (hs : s.length ≤ 1000000) (rest t u s4 s5 : Bs) (l6 : List V) :
    Evt (fun k j => L8 (callN cfg k) j ((pairsF s).map pV) ((pairsF s).map pV) ((((pairsF s).map pV).length : Nat) : Int) (0 : Int) s4 s5 l6 rest t u [] []) (parseV (some (t, u, parP (pairsF s) [] (pairsF s))), []) := by
  obtain ⟨g1, g2⟩ := pairsF_small s.length s (Nat.le_refl _)
  have := loop8 (pairsF s) (by omega) (fun p hp => by have := g2 p hp; omega) s4 s5 rest t u l6 (pairsF s).length 0 [] [] [] (by omega) (by simp) (fun x => by simp [mget, Sc.getB])
  rw [List.length_map]
  simpa [parseV] using this

theorem ret8 (s : Bs) (hs : s.length ≤ 1000000) (two : Bool) : Ret 8 [.str s, .bool two] [] (parseV (parseF s two), []) := by
  refine M8 s two ?_
  have h0 := skipF_le s
  have h1 := tokF_le (skipF s)
  simp only [T8]
  refine evt_bind (ret16 s hs) ?_
  simp only [List.headD_cons, Ob.getC, V.getS]
  refine evt_bind (ret18 (skipF s) (by omega)) ?_
  simp only [V.getS]
  refine evt_bind (ret17 _ (by omega)) ?_
  simp only [V.getS, List.headD_cons, Ob.getC, sEq]
  unfold parseF
  by_cases ht : (tokF (skipF s)).1 = []
  · simp only [ht, List.map_nil, beq_self_eq_true, if_true]
    exact evt_some _
  · have hb : (((tokF (skipF s)).1.map low8) == []) = false := by simp [ht]
    simp only [hb, Bool.false_eq_true, if_false, ht]
    cases two with
    | false =>
      simp only [Bool.false_eq_true, if_false]
      obtain ⟨rest, h20⟩ := ret20 (tokF (skipF s)).2 (by omega)
      refine evt_bind h20 ?_
      simp only [V.getL, List.headD_cons, Ob.getC, V.getS]
      exact ret8_end _ (by omega) _ _ _ _ _ _
    | true =>
      simp only [if_true]
      refine evt_bind (ret19 (tokF (skipF s)).2 (by omega) 47 (by decide)) ?_
      simp only [V.getB, List.headD_cons, Ob.getC, V.getS]
      cases h2 : byteF 47 (tokF (skipF s)).2 with
      | none =>
        simp only [Option.isSome_none, Bool.not_false, if_true]
        exact evt_some _
      | some s2 =>
        have g2 := byteF_le h2
        have g3 := tokF_le s2
        simp only [Option.isSome_some, Bool.not_true, Bool.false_eq_true, if_false, byteR, h2]
        refine evt_bind (ret18 s2 (by omega)) ?_
        simp only [V.getS, List.headD_cons, Ob.getC]
        refine evt_bind (ret17 _ (by omega)) ?_
        simp only [V.getS]
        by_cases hu : (tokF s2).1 = []
        · simp only [hu, List.map_nil, beq_self_eq_true, if_true]
          exact evt_some _
        · have hb2 : (((tokF s2).1.map low8) == []) = false := by simp [hu]
          simp only [hb2, Bool.false_eq_true, if_false, hu]
          obtain ⟨rest, h20⟩ := ret20 (tokF s2).2 (by omega)
          refine evt_bind h20 ?_
          simp only [V.getL, List.headD_cons, Ob.getC, V.getS]
          exact ret8_end _ (by omega) _ _ _ _ _ _

/-- A parameter's value, whatever letters its name has. -/
def getF : Ps → Bs → Option Bs
  | [], _ => none
  | p :: r, name => if p.1.map low8 = name.map low8 then some p.2 else getF r name
theorem loop10 (name : Bs) (hn : name.length ≤ 1000000) (l : Ps) (hl : l.length ≤ 1000000) (hv : ∀ p ∈ l, p.1.length ≤ 1000000) : ∀ (n i : Nat), l.length - i ≤ n →
    Evt (fun k n => L10 (callN cfg k) n name (l.map pV) (l.length : Nat) (i : Nat)) (.tup [.str ((getF (l.drop i) name).getD []), .bool (getF (l.drop i) name).isSome], []) := by
  have fin : ∀ i : Nat, l.length ≤ i → Evt (fun k n => L10 (callN cfg k) n name (l.map pV) (l.length : Nat) (i : Nat)) (.tup [.str ((getF (l.drop i) name).getD []), .bool (getF (l.drop i) name).isSome], []) := by
    intro i h
    refine N10_0 name (l.map pV) (l.length : Nat) (i : Nat) ?_
    have h1 : ¬ ((i : Int) < (l.length : Int)) := by omega
    rw [List.drop_eq_nil_of_le h]
    simp only [T10_0, h1, decide_false, Bool.false_eq_true, if_false, getF]
    exact evt_some _
  intro n
  induction n with
  | zero => intro i h; exact fin i (by omega)
  | succ n ih =>
    intro i h
    by_cases hlt : i < l.length
    · refine N10_0 name (l.map pV) (l.length : Nat) (i : Nat) ?_
      have h1 : ((i : Int) < (l.length : Int)) := by omega
      have h2 : (0 : Int) ≤ (i : Int) := by omega
      have hw : IntKind.wrap .i64 ((i : Int) + 1) = ((i + 1 : Nat) : Int) := by rw [wrap64 (by omega) (by omega)]; omega
      have hd : l.drop i = l[i] :: l.drop (i + 1) := List.drop_eq_getElem_cons hlt
      have hpv := hv l[i] (List.getElem_mem hlt)
      rw [hd, getF]
      simp only [T10_0, h1, decide_true, if_true, chk_p h2, List.length_map, chk_t, Int.toNat_natCast, getD_pV hlt, pV, V.cells, List.headD_cons, List.tail_cons, V.getS, hw]
      refine evt_bind (ret29 l[i].1 name (by omega) (by omega)) ?_
      simp only [V.getB]
      by_cases he : l[i].1.map low8 = name.map low8
      · simp only [he, beq_self_eq_true, if_true]
        exact evt_some _
      · have : (l[i].1.map low8 == name.map low8) = false := by simpa using he
        simp only [this, Bool.false_eq_true, if_false, he]
        exact ih (i + 1) (by omega)
    · exact fin i (by omega)
theorem ret10 (t u : Bs) (l : Ps) (hl : l.length ≤ 1000000) (hv : ∀ p ∈ l, p.1.length ≤ 1000000) (name : Bs) (hn : name.length ≤ 1000000) :
    Ret 10 [.agg [.str t, .str u, .lst 42 false (l.map pV)], .str name] [] (.tup [.str ((getF l name).getD []), .bool (getF l name).isSome], []) := by
  refine M10 t u (l.map pV) name ?_
  simp only [T10, List.length_map]
  exact loop10 name hn l hl hv l.length 0 (by omega)

/-- A byte within quotes. -/
def escF (c : UInt8) : Bs := if c = 34 ∨ c = 92 then [92, c] else [c]
def quotedF (s : Bs) : Bs := [34] ++ s.flatMap escF ++ [34]
theorem loop14 (s : Bs) (hs : s.length ≤ 1000000) : ∀ (n i : Nat) (out : Bs), s.length - i ≤ n → out.length ≤ 2 * i + 1 → i ≤ s.length →
    Evt (fun k n => L14 (callN cfg k) n s (ofBytes out) (s.length : Nat) (i : Nat)) (.str (out ++ (s.drop i).flatMap escF ++ [34]), []) := by
  have fin : ∀ (i : Nat) (out : Bs), s.length ≤ i → out.length ≤ 2 * i + 1 → i ≤ s.length → Evt (fun k n => L14 (callN cfg k) n s (ofBytes out) (s.length : Nat) (i : Nat)) (.str (out ++ (s.drop i).flatMap escF ++ [34]), []) := by
    intro i out h ho hi
    refine N14_0 s (ofBytes out) (s.length : Nat) (i : Nat) ?_
    have h1 : ¬ ((i : Int) < (s.length : Int)) := by omega
    have hap : appOk (ofBytes out) [V.int IntKind.u8 34] 2 = true := app_ok (by simp [ofBytes_length]; omega)
    have h34 : ofBytes out ++ [V.int IntKind.u8 34] = ofBytes (out ++ [34]) := ofBytes_snoc out 34
    rw [List.drop_eq_nil_of_le h]
    simp only [T14_0, h1, decide_false, Bool.false_eq_true, if_false, chk_b hap, h34, bytesOf_ofBytes, List.flatMap_nil, List.append_nil]
    exact evt_some _
  intro n
  induction n with
  | zero => intro i out h ho hi; exact fin i out (by omega) ho hi
  | succ n ih =>
    intro i out h ho hi
    by_cases hlt : i < s.length
    · refine N14_0 s (ofBytes out) (s.length : Nat) (i : Nat) ?_
      have h1 : ((i : Int) < (s.length : Int)) := by omega
      have h2 : (0 : Int) ≤ (i : Int) := by omega
      have hw : IntKind.wrap .i64 ((i : Int) + 1) = ((i + 1 : Nat) : Int) := by rw [wrap64 (by omega) (by omega)]; omega
      have e34 : (((s[i].toNat : Nat) : Int) == (34 : Int)) = (s[i] == 34) := intB_lit s[i] 34 (by omega)
      have e92 : (((s[i].toNat : Nat) : Int) == (92 : Int)) = (s[i] == 92) := intB_lit s[i] 92 (by omega)
      have hap : ∀ c : Int, appOk (ofBytes out) [V.int IntKind.u8 c] 2 = true := fun c => app_ok (by simp [ofBytes_length]; omega)
      have hap2 : ∀ c : Int, appOk (ofBytes (out ++ [92])) [V.int IntKind.u8 c] 2 = true := fun c => app_ok (by simp [ofBytes_length]; omega)
      have h92 : ofBytes out ++ [V.int IntKind.u8 92] = ofBytes (out ++ [92]) := ofBytes_snoc out 92
      have hor : (chk (decide ((0 : Int) ≤ (i : Int))) (chk (decide ((i : Int) < (s.length : Int))) (if (s[i] == 34) = false then
          chk (decide ((0 : Int) ≤ (i : Int))) (chk (decide ((i : Int) < (s.length : Int))) (some (s[i] == 92))) else some true))) = some (decide (s[i] = 34 ∨ s[i] = 92)) := by
        simp only [chk_p h2, chk_p h1]
        by_cases a : s[i] = 34
        · simp [a]
        · have b : (s[i] == 34) = false := by simpa using a
          simp only [b, if_true, a, false_or]
          by_cases c : s[i] = 92 <;> simp [c]
      simp only [T14_0, h1, decide_true, if_true, Int.toNat_natCast, getD_at hlt, e34, e92, hw]
      have hor' := hor
      simp only [h1, decide_true] at hor'
      rw [hor']
      simp only [bind_s, drop_at hlt, List.flatMap_cons]
      by_cases hc : s[i] = 34 ∨ s[i] = 92
      · simp only [hc, decide_true, if_true, chk_b (hap _), chk_p h2, chk_t, h92, chk_b (hap2 _), ofBytes_snoc]
        have := ih (i + 1) ((out ++ [92]) ++ [s[i]]) (by omega) (by simp; omega) (by omega)
        simpa [escF, hc] using this
      · simp only [hc, decide_false, Bool.false_eq_true, if_false, chk_b (hap _), chk_p h2, chk_t, ofBytes_snoc]
        have := ih (i + 1) (out ++ [s[i]]) (by omega) (by simp; omega) (by omega)
        simpa [escF, hc] using this
    · exact fin i out (by omega) ho hi
theorem ret14 (s : Bs) (hs : s.length ≤ 1000000) : Ret 14 [.str s] [] (.str (quotedF s), []) := by
  refine M14 s ?_
  simp only [T14]
  have h34 : [V.int IntKind.u8 (34 : Int)] = ofBytes [34] := rfl
  rw [h34]
  exact loop14 s hs s.length 0 [34] (by omega) (by simp) (by omega)
end Go.Proofs.YtmhhcoccfojiiaaDoor
