/- The document's value of a text, its parameters, and the law's own answer. -/
import Derived.Test.YtmhhcoccfojiiaaDoorRefC
namespace Go.Proofs.YtmhhcoccfojiiaaDoor
open Go.Ev Go

/-- Has no earlier one this base? -/
def freshF (l : Ps) (b : Bs) (i : Nat) : Bool := (l.take i).all fun p => !(baseF p.1 == b)
theorem name_at {l : Ps} {k : Nat} (h : k < l.length) : V.getS (List.headD (V.cells (List.getD (l.map pV) k V.bot)) V.bot) = l[k].1 := by
  rw [getD_pV h]; rfl

section
variable (l : Ps) (hl : l.length ≤ 1000000) (hv : ∀ p ∈ l, p.1.length ≤ 1000000 ∧ p.2.length ≤ 1000000) (s2 s3 t u : Bs) (l4 : List V)
include hl hv
theorem loop9_1 (i : Nat) (hi : i < l.length) (out : Ps) {r : V × List Ob}
    (hend : Evt (fun k m => Option.bind (if sEq (baseF l[i].1) [] = false then some (!(freshF l (baseF l[i].1) i)) else some true) fun y0 => if y0 = true then (L9 (callN cfg k) m).1 (l.map pV) ((i + 1 : Nat) : Int) s2 s3 l4 t u (out.map pV) else
        Option.bind (callN cfg k 28 [(V.lst 62 false (l.map pV)), (V.str (baseF l[i].1))] []) fun p1 =>
        if (V.getB (List.headD (List.tail (V.getT p1.1)) V.bot)) = true then
          chk (appOk (out.map pV) [(V.agg [(V.str (baseF l[i].1)), (V.str (V.getS (List.headD (V.getT p1.1) V.bot)))])] 33) ((L9 (callN cfg k) m).1 (l.map pV) ((i + 1 : Nat) : Int) s2 s3 l4 t u ((out.map pV) ++ [(V.agg [(V.str (baseF l[i].1)), (V.str (V.getS (List.headD (V.getT p1.1) V.bot)))])]))
        else (L9 (callN cfg k) m).1 (l.map pV) ((i + 1 : Nat) : Int) s2 s3 l4 t u (out.map pV)) r) :
    ∀ (n j : Nat), i - j = n → j ≤ i → Evt (fun k m => (L9 (callN cfg k) m).2 (l.map pV) ((i : Nat) : Int) (baseF l[i].1) (freshF l (baseF l[i].1) j) ((j : Nat) : Int) s2 s3 l4 t u (out.map pV)) r := by
  intro n
  induction n with
  | zero =>
    intro j h hj
    have : j = i := by omega
    subst this
    refine N9_1 (l.map pV) ((j : Nat) : Int) (baseF l[j].1) (freshF l (baseF l[j].1) j) ((j : Nat) : Int) s2 s3 l4 t u (out.map pV) ?_
    have h1 : ¬ ((j : Int) < (j : Int)) := by omega
    have hw : IntKind.wrap .i64 ((j : Int) + 1) = ((j + 1 : Nat) : Int) := by rw [wrap64 (by omega) (by omega)]; omega
    simp only [T9_1, h1, decide_false, Bool.false_eq_true, if_false, hw]
    exact hend
  | succ n ih =>
    intro j h hj
    refine N9_1 (l.map pV) ((i : Nat) : Int) (baseF l[i].1) (freshF l (baseF l[i].1) j) ((j : Nat) : Int) s2 s3 l4 t u (out.map pV) ?_
    have hjl : j < l.length := by omega
    have h1 : ((j : Int) < (i : Int)) := by omega
    have h2 : (0 : Int) ≤ (j : Int) := by omega
    have h3 : ((j : Int) < (((l.map pV).length : Nat) : Int)) := by simp; omega
    have hw : IntKind.wrap .i64 ((j : Int) + 1) = ((j + 1 : Nat) : Int) := by rw [wrap64 (by omega) (by omega)]; omega
    have hf : freshF l (baseF l[i].1) (j + 1) = (freshF l (baseF l[i].1) j && !(baseF l[j].1 == baseF l[i].1)) := by
      unfold freshF
      rw [List.take_succ_eq_append_getElem hjl, List.all_append]; simp
    have hnx := ih (j + 1) (by omega) (by omega)
    rw [hf] at hnx
    simp only [T9_1, h1, decide_true, if_true]
    cases hfr : freshF l (baseF l[i].1) j
    · rw [hfr] at hnx
      simp only [Bool.false_eq_true, if_false, hw]
      exact hnx
    · rw [hfr] at hnx
      simp only [if_true, chk_p h2, chk_p h3, Int.toNat_natCast, name_at hjl]
      refine evt_bind (ret27 l[j].1 (hv _ (List.getElem_mem hjl)).1) ?_
      simp only [getS_str, sEq, hw]
      simpa using hnx

theorem loop9_0 : ∀ (n i : Nat) (out : Ps) (seen : List Bs), l.length - i = n → i ≤ l.length → out.length ≤ i →
    (∀ b : Bs, b ≠ [] → (b ∈ seen ↔ freshF l b i = false)) →
    Evt (fun k m => (L9 (callN cfg k) m).1 (l.map pV) ((i : Nat) : Int) s2 s3 l4 t u (out.map pV)) (.tup [.agg [.str t, .str u, .lst 62 false ((out ++ parP l seen (l.drop i)).map pV)], .bool true], []) := by
  intro n
  induction n with
  | zero =>
    intro i out seen h hi ho hs
    have : i = l.length := by omega
    subst this
    refine N9_0 (l.map pV) ((l.length : Nat) : Int) s2 s3 l4 t u (out.map pV) ?_
    have h1 : ¬ ((l.length : Int) < (((l.map pV).length : Nat) : Int)) := by simp
    rw [List.drop_eq_nil_of_le (Nat.le_refl _)]
    simp only [T9_0, h1, decide_false, Bool.false_eq_true, if_false, parP, List.append_nil]
    exact evt_some _
  | succ n ih =>
    intro i out seen h hi ho hs
    have hlt : i < l.length := by omega
    refine N9_0 (l.map pV) ((i : Nat) : Int) s2 s3 l4 t u (out.map pV) ?_
    have h1 : ((i : Int) < (((l.map pV).length : Nat) : Int)) := by simp; omega
    have h2 : (0 : Int) ≤ (i : Int) := by omega
    have hd : l.drop i = l[i] :: l.drop (i + 1) := List.drop_eq_getElem_cons hlt
    have hpv := hv l[i] (List.getElem_mem hlt)
    simp only [T9_0, h1, decide_true, if_true, chk_p h2, chk_t, Int.toNat_natCast, name_at hlt]
    refine evt_bind (ret27 l[i].1 hpv.1) ?_
    simp only [getS_str]
    have f0 : freshF l (baseF l[i].1) 0 = true := by simp [freshF]
    have step : ∀ b : Bs, freshF l b (i + 1) = (freshF l b i && !(baseF l[i].1 == b)) := by
      intro b
      unfold freshF
      rw [List.take_succ_eq_append_getElem hlt, List.all_append]; simp
    have := loop9_1 l hl hv s2 s3 t u l4 i hlt out (r := (.tup [.agg [.str t, .str u, .lst 62 false ((out ++ parP l seen (l.drop i)).map pV)], .bool true], [])) ?_ i 0 (by omega) (by omega)
    · rw [f0] at this
      exact this
    · rw [hd, parP]
      by_cases he : baseF l[i].1 = []
      · have hse : sEq (baseF l[i].1) [] = true := by simp [sEq, he]
        rw [if_pos (show baseF l[i].1 = [] ∨ baseF l[i].1 ∈ seen from .inl he)]
        simp only [hse, Bool.true_eq_false, if_false, bind_s, if_true]
        refine ih (i + 1) out seen (by omega) (by omega) (by omega) fun b hb => ?_
        rw [hs b hb, step b, he]
        have : (([] : Bs) == b) = false := by simpa using fun e : [] = b => hb e.symm
        rw [this]; simp
      · have hse : sEq (baseF l[i].1) [] = false := by simp [sEq, he]
        simp only [hse, if_true, bind_s]
        cases hfr : freshF l (baseF l[i].1) i
        · have hm : baseF l[i].1 ∈ seen := (hs _ he).2 hfr
          rw [if_pos (show baseF l[i].1 = [] ∨ baseF l[i].1 ∈ seen from .inr hm)]
          simp only [Bool.not_false, if_true]
          refine ih (i + 1) out seen (by omega) (by omega) (by omega) fun b hb => ?_
          rw [hs b hb, step b]
          by_cases e : baseF l[i].1 = b
          · subst e; simp [hfr]
          · have : (baseF l[i].1 == b) = false := by simpa using e
            rw [this]; simp
        · have hm : ¬ baseF l[i].1 ∈ seen := fun hm => by have := (hs _ he).1 hm; rw [hfr] at this; cases this
          rw [if_neg (show ¬ (baseF l[i].1 = [] ∨ baseF l[i].1 ∈ seen) by rintro (h | h); exact he h; exact hm h)]
          simp only [Bool.not_true, Bool.false_eq_true, if_false]
          have hs' : ∀ b : Bs, b ≠ [] → (b ∈ baseF l[i].1 :: seen ↔ freshF l b (i + 1) = false) := by
            intro b hb
            rw [List.mem_cons, step b]
            by_cases e : baseF l[i].1 = b
            · subst e; simp
            · have h1 : (baseF l[i].1 == b) = false := by simpa using e
              rw [h1]
              have h2 : ¬ b = baseF l[i].1 := fun h => e h.symm
              simp only [h2, false_or, Bool.not_false, Bool.and_true]
              exact hs b hb
          refine evt_bind (ret28 l (baseF l[i].1) hl (fun p hp => (hv p hp).2) (Nat.le_trans (baseF_le _) hpv.1)) ?_
          simp only [getT_tup, getB_bool, getS_str, List.headD_cons, List.tail_cons]
          cases ht : toldF l (baseF l[i].1) with
          | none =>
            simp only [Option.isSome_none, Bool.false_eq_true, if_false]
            exact ih (i + 1) out (baseF l[i].1 :: seen) (by omega) (by omega) (by omega) hs'
          | some x =>
            have hap : appOk (out.map pV) [V.agg [V.str (baseF l[i].1), V.str x]] 33 = true := app_ok (by simp; omega)
            simp only [Option.isSome_some, if_true, Option.getD_some, chk_b hap]
            have := ih (i + 1) (out ++ [(baseF l[i].1, x)]) (baseF l[i].1 :: seen) (by omega) (by omega) (by simp; omega) hs'
            simpa [pV] using this
end

/-- What stands for it in the document's words. -/
def parseV2 : Option (Bs × Bs × Ps) → V
  | none => .tup [.agg [.str [], .str [], .lst 62 false []], .bool false]
  | some (t, u, ps) => .tup [.agg [.str t, .str u, .lst 62 false (ps.map pV)], .bool true]
theorem ret9_end (s : Bs) (hs : s.length ≤ 1000000) (t u s2 s3 : Bs) (l4 : List V) :
    Evt (fun k m => (L9 (callN cfg k) m).1 ((pairsF s).map pV) (0 : Int) s2 s3 l4 t u []) (parseV2 (some (t, u, parP (pairsF s) [] (pairsF s))), []) := by
  obtain ⟨g1, g2⟩ := pairsF_small s.length s (Nat.le_refl _)
  have := loop9_0 (pairsF s) (by omega) (fun p hp => by have := g2 p hp; omega) s2 s3 t u l4 (pairsF s).length 0 [] [] (by omega) (by omega) (by simp) (fun b hb => by simp [freshF])
  simpa [parseV2] using this
theorem ret9 (s : Bs) (hs : s.length ≤ 1000000) (two : Bool) : Ret 9 [.str s, .bool two] [] (parseV2 (parseF s two), []) := by
  refine M9 s two ?_
  have h0 := skipF_le s
  have h1 := tokF_le (skipF s)
  simp only [T9]
  refine evt_bind (ret24 s hs) ?_
  simp only [getS_str]
  refine evt_bind (ret23 (skipF s) (by omega)) ?_
  simp only [getT_tup, getS_str, List.headD_cons, List.tail_cons]
  refine evt_bind (ret25 _ (by omega)) ?_
  simp only [getS_str]
  unfold parseF
  by_cases ht : (tokF (skipF s)).1 = []
  · have hse : sEq (tokF (skipF s)).1 [] = true := by simp [sEq, ht]
    rw [if_pos ht]
    simp only [hse, if_true]
    exact evt_some _
  · have hse : sEq (tokF (skipF s)).1 [] = false := by simp [sEq, ht]
    rw [if_neg ht]
    simp only [hse, Bool.false_eq_true, if_false]
    cases two with
    | false =>
      simp only [Bool.false_eq_true, if_false]
      refine evt_bind (ret26 (tokF (skipF s)).2 (by omega)) ?_
      simp only [getL_lst]
      exact ret9_end _ (by omega) _ _ _ _ _
    | true =>
      simp only [if_true]
      have f47 := front_byte (tokF (skipF s)).2 47 (by decide)
      have e47 : ((UInt8.toNat 47 : Nat) : Int) = 47 := rfl
      rw [e47] at f47
      refine evt_bind (ret24 (tokF (skipF s)).2 (by omega)) ?_
      dsimp +instances only [getS_str]
      rw [f47]
      simp only [bind_s]
      cases h2 : byteF 47 (tokF (skipF s)).2 with
      | none =>
        simp only [Option.isNone_none, if_true]
        exact evt_some _
      | some s2 =>
        obtain ⟨k0, k00⟩ := front_some h2
        have g2 := byteF_le h2
        have g3 := tokF_le s2
        have hsk2 := skipF_le (tokF (skipF s)).2
        have hdl2 : ((skipF (tokF (skipF s)).2).drop 1).length ≤ 1000000 := by simp; omega
        simp only [Option.isNone_some, Bool.false_eq_true, if_false, chk_p (show (0 : Int) ≤ 1 by omega), chk_p k0, show Int.toNat 1 = 1 from rfl]
        refine evt_bind (ret24 _ hdl2) ?_
        dsimp +instances only [getS_str]
        rw [k00]
        refine evt_bind (ret23 s2 (by omega)) ?_
        simp only [getT_tup, getS_str, List.headD_cons, List.tail_cons]
        by_cases hu : (tokF s2).1 = []
        · have hse2 : sEq (tokF s2).1 [] = true := by simp [sEq, hu]
          rw [if_pos hu]
          simp only [hse2, if_true]
          exact evt_some _
        · have hse2 : sEq (tokF s2).1 [] = false := by simp [sEq, hu]
          rw [if_neg hu]
          simp only [hse2, Bool.false_eq_true, if_false]
          refine evt_bind (ret25 _ (by omega)) ?_
          refine evt_bind (ret26 (tokF s2).2 (by omega)) ?_
          simp only [getL_lst, getS_str]
          exact ret9_end _ (by omega) _ _ _ _ _

theorem loop11 (name : Bs) (hn : name.length ≤ 1000000) (t u : Bs) (l : Ps) (hl : l.length ≤ 1000000) (hv : ∀ p ∈ l, p.1.length ≤ 1000000) : ∀ (n i : Nat), l.length - i ≤ n →
    Evt (fun k m => L11 (callN cfg k) m name (i : Nat) t u (l.map pV)) (.tup [.str ((getF (l.drop i) name).getD []), .bool (getF (l.drop i) name).isSome], []) := by
  have fin : ∀ i : Nat, l.length ≤ i → Evt (fun k m => L11 (callN cfg k) m name (i : Nat) t u (l.map pV)) (.tup [.str ((getF (l.drop i) name).getD []), .bool (getF (l.drop i) name).isSome], []) := by
    intro i h
    refine N11_0 name (i : Nat) t u (l.map pV) ?_
    have h1 : ¬ ((i : Int) < (((l.map pV).length : Nat) : Int)) := by simp; omega
    rw [List.drop_eq_nil_of_le h]
    simp only [T11_0, h1, decide_false, Bool.false_eq_true, if_false, getF]
    exact evt_some _
  intro n
  induction n with
  | zero => intro i h; exact fin i (by omega)
  | succ n ih =>
    intro i h
    by_cases hlt : i < l.length
    · refine N11_0 name (i : Nat) t u (l.map pV) ?_
      have h1 : ((i : Int) < (((l.map pV).length : Nat) : Int)) := by simp; omega
      have h2 : (0 : Int) ≤ (i : Int) := by omega
      have hw : IntKind.wrap .i64 ((i : Int) + 1) = ((i + 1 : Nat) : Int) := by rw [wrap64 (by omega) (by omega)]; omega
      have hd : l.drop i = l[i] :: l.drop (i + 1) := List.drop_eq_getElem_cons hlt
      have hpv := hv l[i] (List.getElem_mem hlt)
      rw [hd, getF]
      simp only [T11_0, h1, decide_true, if_true, chk_p h2, chk_t, Int.toNat_natCast, name_at hlt, value_at hlt, hw]
      refine evt_bind (ret25 l[i].1 hpv) ?_
      refine evt_bind (ret25 name hn) ?_
      simp only [getS_str, sEq]
      by_cases he : l[i].1.map low8 = name.map low8
      · simp only [he, beq_self_eq_true, if_true]
        exact evt_some _
      · have : (l[i].1.map low8 == name.map low8) = false := by simpa using he
        simp only [this, Bool.false_eq_true, if_false, he]
        exact ih (i + 1) (by omega)
    · exact fin i (by omega)
theorem ret11 (t u : Bs) (l : Ps) (hl : l.length ≤ 1000000) (hv : ∀ p ∈ l, p.1.length ≤ 1000000) (name : Bs) (hn : name.length ≤ 1000000) :
    Ret 11 [.agg [.str t, .str u, .lst 62 false (l.map pV)], .str name] [] (.tup [.str ((getF l name).getD []), .bool (getF l name).isSome], []) := by
  refine M11 t u (l.map pV) name ?_
  simp only [T11]
  exact loop11 name hn t u l hl hv l.length 0 (by omega)

theorem loop12 (t u : Bs) (l : Ps) (hl : l.length ≤ 1000000) : ∀ (n i : Nat), l.length - i = n → i ≤ l.length →
    Evt (fun k m => L12 (callN cfg k) m (i : Nat) t u (l.map pV) t u (l.map pV)) (.bool true, []) := by
  intro n
  induction n with
  | zero =>
    intro i h hi
    refine N12_0 (i : Nat) t u (l.map pV) t u (l.map pV) ?_
    have h1 : ¬ ((i : Int) < (((l.map pV).length : Nat) : Int)) := by simp; omega
    simp only [T12_0, h1, decide_false, Bool.false_eq_true, if_false]
    exact evt_some _
  | succ n ih =>
    intro i h hi
    have hlt : i < l.length := by omega
    refine N12_0 (i : Nat) t u (l.map pV) t u (l.map pV) ?_
    have h1 : ((i : Int) < (((l.map pV).length : Nat) : Int)) := by simp; omega
    have h2 : (0 : Int) ≤ (i : Int) := by omega
    have hw : IntKind.wrap .i64 ((i : Int) + 1) = ((i + 1 : Nat) : Int) := by rw [wrap64 (by omega) (by omega)]; omega
    have s1 : ∀ x : Bs, sEq x x = true := fun x => by simp [sEq]
    simp only [T12_0, h1, decide_true, if_true, chk_p h2, chk_t, Int.toNat_natCast, s1, Bool.and_true, Bool.not_true, Bool.false_eq_true, if_false, hw]
    exact ih (i + 1) (by omega) (by omega)
theorem ret12 (t u : Bs) (l : Ps) (hl : l.length ≤ 1000000) : Ret 12 [.agg [.str t, .str u, .lst 62 false (l.map pV)], .agg [.str t, .str u, .lst 62 false (l.map pV)]] [] (.bool true, []) := by
  refine M12 t u (l.map pV) t u (l.map pV) ?_
  have s1 : ∀ x : Bs, sEq x x = true := fun x => by simp [sEq]
  have b1 : ((((l.map pV).length : Nat) : Int) != (((l.map pV).length : Nat) : Int)) = false := by simp
  simp only [T12, s1, Bool.not_true, if_true, b1, bind_s, Bool.false_eq_true, if_false]
  exact loop12 t u l hl l.length 0 (by omega) (by omega)

theorem loop13 (t u s4 s5 : Bs) (l6 : List V) (l : Ps) (hl : l.length ≤ 1000000) : ∀ (n i : Nat), l.length - i = n → i ≤ l.length →
    Evt (fun k m => L13 (callN cfg k) m (i : Nat) t u (l.map pV) s4 s5 l6 t u ((l.take i).map pV)) (.agg [.str t, .str u, .lst 62 false (l.map pV)], []) := by
  intro n
  induction n with
  | zero =>
    intro i h hi
    have : i = l.length := by omega
    subst this
    refine N13_0 ((l.length : Nat) : Int) t u (l.map pV) s4 s5 l6 t u ((l.take l.length).map pV) ?_
    have h1 : ¬ ((l.length : Int) < (((l.map pV).length : Nat) : Int)) := by simp
    simp only [T13_0, h1, decide_false, Bool.false_eq_true, if_false, List.take_length]
    exact evt_some _
  | succ n ih =>
    intro i h hi
    have hlt : i < l.length := by omega
    refine N13_0 (i : Nat) t u (l.map pV) s4 s5 l6 t u ((l.take i).map pV) ?_
    have h1 : ((i : Int) < (((l.map pV).length : Nat) : Int)) := by simp; omega
    have h2 : (0 : Int) ≤ (i : Int) := by omega
    have hw : IntKind.wrap .i64 ((i : Int) + 1) = ((i + 1 : Nat) : Int) := by rw [wrap64 (by omega) (by omega)]; omega
    have hap : appOk ((l.take i).map pV) [V.agg [V.str l[i].1, V.str l[i].2]] 33 = true := app_ok (by simp; omega)
    have e : (l.take (i + 1)).map pV = (l.take i).map pV ++ [V.agg [V.str l[i].1, V.str l[i].2]] := by rw [List.take_succ_eq_append_getElem hlt, List.map_append]; rfl
    have := ih (i + 1) (by omega) (by omega)
    rw [e] at this
    simp only [T13_0, h1, decide_true, if_true, chk_p h2, chk_t, Int.toNat_natCast, name_at hlt, value_at hlt, chk_b hap, hw]
    exact this
theorem ret13 (t u : Bs) (l : Ps) (hl : l.length ≤ 1000000) : Ret 13 [.agg [.str t, .str u, .lst 42 false (l.map pV)]] [] (.agg [.str t, .str u, .lst 62 false (l.map pV)], []) := by
  refine M13 t u (l.map pV) ?_
  simp only [T13]
  exact loop13 t u [] [] [] l hl l.length 0 (by omega) (by omega)

theorem loop15 (s : Bs) (hs : s.length ≤ 1000000) : ∀ (n i : Nat) (out : Bs), s.length - i = n → out.length ≤ 2 * i + 1 → i ≤ s.length →
    Evt (fun k m => L15 (callN cfg k) m s out (i : Nat)) (.str (out ++ (s.drop i).flatMap escF ++ [34]), []) := by
  intro n
  induction n with
  | zero =>
    intro i out h ho hi
    refine N15_0 s out (i : Nat) ?_
    have h1 : ¬ ((i : Int) < (s.length : Int)) := by omega
    have hc : catOk out [34] = true := cat_ok (by simp; omega)
    rw [List.drop_eq_nil_of_le (by omega)]
    simp only [T15_0, h1, decide_false, Bool.false_eq_true, if_false, chk_b hc, List.flatMap_nil, List.append_nil]
    exact evt_some _
  | succ n ih =>
    intro i out h ho hi
    have hlt : i < s.length := by omega
    refine N15_0 s out (i : Nat) ?_
    have h1 : ((i : Int) < (s.length : Int)) := by omega
    have h2 : (0 : Int) ≤ (i : Int) := by omega
    have hw : IntKind.wrap .i64 ((i : Int) + 1) = ((i + 1 : Nat) : Int) := by rw [wrap64 (by omega) (by omega)]; omega
    have h3 : (0 : Int) ≤ ((i + 1 : Nat) : Int) := by omega
    have h4 : ((i + 1 : Nat) : Int) ≤ (s.length : Int) := by omega
    have h5 : (i : Int) ≤ ((i + 1 : Nat) : Int) := by omega
    have e34 : (((s[i].toNat : Nat) : Int) == (34 : Int)) = (s[i] == 34) := intB_lit s[i] 34 (by omega)
    have e92 : (((s[i].toNat : Nat) : Int) == (92 : Int)) = (s[i] == 92) := intB_lit s[i] 92 (by omega)
    have c1 : catOk out [92] = true := cat_ok (by simp; omega)
    have c2 : catOk (out ++ [92]) [s[i]] = true := cat_ok (by simp; omega)
    have c3 : catOk out [s[i]] = true := cat_ok (by simp; omega)
    have hor : (chk (decide ((0 : Int) ≤ (i : Int))) (chk (decide ((i : Int) < (s.length : Int))) (if (s[i] == 34) = false then
        chk (decide ((0 : Int) ≤ (i : Int))) (chk (decide ((i : Int) < (s.length : Int))) (some (s[i] == 92))) else some true))) = some (decide (s[i] = 34 ∨ s[i] = 92)) := by
      simp only [chk_p h2, chk_p h1]
      by_cases a : s[i] = 34
      · simp [a]
      · have b : (s[i] == 34) = false := by simpa using a
        simp only [b, if_true, a, false_or]
        by_cases c : s[i] = 92 <;> simp [c]
    have hor' := hor
    simp only [h1, decide_true] at hor'
    simp only [T15_0, h1, decide_true, if_true, Int.toNat_natCast, getD_at hlt, e34, e92, hw]
    rw [hor']
    simp only [bind_s, drop_at hlt, List.flatMap_cons]
    by_cases hc : s[i] = 34 ∨ s[i] = 92
    · simp only [hc, decide_true, if_true, chk_p h2, chk_p h3, chk_p h4, chk_p h5, cut_one hlt, chk_b c1, chk_b c2]
      have := ih (i + 1) ((out ++ [92]) ++ [s[i]]) (by omega) (by simp; omega) (by omega)
      simpa [escF, hc] using this
    · simp only [hc, decide_false, Bool.false_eq_true, if_false, chk_p h2, chk_p h3, chk_p h4, chk_p h5, cut_one hlt, chk_b c3]
      have := ih (i + 1) (out ++ [s[i]]) (by omega) (by simp; omega) (by omega)
      simpa [escF, hc] using this
theorem ret15 (s : Bs) (hs : s.length ≤ 1000000) : Ret 15 [.str s] [] (.str (quotedF s), []) := by
  refine M15 s ?_
  simp only [T15]
  exact loop15 s hs s.length 0 [34] (by omega) (by simp) (by omega)
end Go.Proofs.YtmhhcoccfojiiaaDoor
