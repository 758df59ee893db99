/- The value of any text, and any parameter of it: the law's own answer. -/
import Derived.Test.YtmhhcoccfojiiaaDoorRefD
namespace Go.Proofs.YtmhhcoccfojiiaaDoor
open Go.Ev Go

theorem parsed_small {s : Bs} {two : Bool} {t u : Bs} {ps : Ps} (h : parseF s two = some (t, u, ps)) : ps.length ≤ s.length ∧ ∀ p ∈ ps, p.1.length ≤ s.length := by
  have h0 := skipF_le s
  have h1 := tokF_le (skipF s)
  have parS : ∀ (l r : Ps) (seen : List Bs), (parP l seen r).length ≤ r.length ∧ ∀ p ∈ parP l seen r, ∃ q ∈ r, p.1 = baseF q.1 := by
    intro l r
    induction r with
    | nil => intro seen; simp [parP]
    | cons p r ih =>
      intro seen
      rw [parP]
      split
      · obtain ⟨h1, h2⟩ := ih seen
        refine ⟨by rw [List.length_cons]; omega, fun q hq => ?_⟩
        obtain ⟨q', hq', e⟩ := h2 q hq
        exact ⟨q', by simp [hq'], e⟩
      · obtain ⟨h1, h2⟩ := ih (baseF p.1 :: seen)
        cases toldF l (baseF p.1) with
        | none =>
          refine ⟨Nat.le_succ_of_le h1, fun q hq => ?_⟩
          obtain ⟨q', hq', e⟩ := h2 q hq
          exact ⟨q', by simp [hq'], e⟩
        | some x =>
          refine ⟨by rw [List.length_cons]; exact Nat.succ_le_succ h1, fun q hq => ?_⟩
          rw [List.mem_cons] at hq
          rcases hq with rfl | hq
          · exact ⟨p, by simp, rfl⟩
          · obtain ⟨q', hq', e⟩ := h2 q hq
            exact ⟨q', by simp [hq'], e⟩
  have fin : ∀ r : Bs, r.length ≤ s.length → (parP (pairsF r) [] (pairsF r)).length ≤ s.length ∧ ∀ p ∈ parP (pairsF r) [] (pairsF r), p.1.length ≤ s.length := by
    intro r hr
    obtain ⟨g1, g2⟩ := pairsF_small r.length r (Nat.le_refl _)
    obtain ⟨g3, g4⟩ := parS (pairsF r) (pairsF r) []
    refine ⟨by omega, fun p hp => ?_⟩
    obtain ⟨q, hq, e⟩ := g4 p hp
    have := (g2 q hq).1
    have := baseF_le q.1
    rw [e]; omega
  unfold parseF at h
  split at h
  · cases h
  · split at h
    · split at h
      · cases h
      · rename_i s2 h2
        have g2 := byteF_le h2
        have g3 := tokF_le s2
        split at h
        · cases h
        · cases h
          exact fin (tokF s2).2 (by omega)
    · cases h
      exact fin (tokF (skipF s)).2 (by omega)

theorem ret3 (s : Bs) (two : Bool) (name : Bs) : Ret 3 [.str s, .bool two, .str name] [] (.bool true, []) := by
  refine M3 s two name ?_
  simp only [T3]
  refine evt_bind ret7 ?_
  simp only [getB_bool, Bool.not_true, Bool.false_eq_true, if_false]
  have hor : (if decide (((s.length : Nat) : Int) > 400) = false then some (decide (((name.length : Nat) : Int) > 100)) else some true) = some (decide (s.length > 400 ∨ name.length > 100)) := by
    have d1 : decide (((s.length : Nat) : Int) > 400) = decide (s.length > 400) := decide_eq_decide.2 (by omega)
    have d2 : decide (((name.length : Nat) : Int) > 100) = decide (name.length > 100) := decide_eq_decide.2 (by omega)
    rw [d1, d2]
    by_cases h1 : s.length > 400
    · simp only [h1, decide_true, Bool.true_eq_false, if_false, true_or]
    · simp only [h1, decide_false, if_true, false_or]
  rw [hor]
  simp only [bind_s]
  by_cases h : s.length > 400 ∨ name.length > 100
  · simp only [h, decide_true, if_true]
    exact evt_some _
  · simp only [h, decide_false, Bool.false_eq_true, if_false]
    have hs : s.length ≤ 400 := by omega
    have hn : name.length ≤ 100 := by omega
    have h8 := ret8 s (by omega) two
    have h9 := ret9 s (by omega) two
    have h14 := ret14 name (by omega)
    have h15 := ret15 name (by omega)
    have sq : ∀ x : Bs, sEq x x = true := fun x => by simp [sEq]
    cases hp : parseF s two with
    | none =>
      rw [hp] at h8 h9
      have h10 := ret10 [] [] [] (by simp) (by simp) name (by omega)
      have h11 := ret11 [] [] [] (by simp) (by simp) name (by omega)
      have h13 := ret13 [] [] [] (by simp)
      have h12 := ret12 [] [] [] (by simp)
      refine evt_bind h8 ?_
      refine evt_bind h9 ?_
      refine evt_bind h10 ?_
      refine evt_bind h11 ?_
      simp only [parseV, parseV2, getT_tup, V.cells, List.headD_cons, List.tail_cons, getB_bool, getS_str, getL_lst, beq_self_eq_true, if_true]
      refine evt_bind h13 ?_
      simp only [V.cells, List.headD_cons, List.tail_cons, getS_str, getL_lst]
      refine evt_bind h12 ?_
      simp only [getB_bool, if_true, sq]
      refine evt_bind h14 ?_
      refine evt_bind h15 ?_
      simp only [getS_str, sq]
      exact evt_some _
    | some q =>
      obtain ⟨t, u, ps⟩ := q
      obtain ⟨g1, g2⟩ := parsed_small hp
      rw [hp] at h8 h9
      have hv : ∀ p ∈ ps, p.1.length ≤ 1000000 := fun p hp => by have := g2 p hp; omega
      have h10 := ret10 t u ps (by omega) hv name (by omega)
      have h11 := ret11 t u ps (by omega) hv name (by omega)
      have h13 := ret13 t u ps (by omega)
      have h12 := ret12 t u ps (by omega)
      refine evt_bind h8 ?_
      refine evt_bind h9 ?_
      refine evt_bind h10 ?_
      refine evt_bind h11 ?_
      simp only [parseV, parseV2, getT_tup, V.cells, List.headD_cons, List.tail_cons, getB_bool, getS_str, getL_lst, beq_self_eq_true, if_true]
      refine evt_bind h13 ?_
      simp only [V.cells, List.headD_cons, List.tail_cons, getS_str, getL_lst]
      refine evt_bind h12 ?_
      simp only [getB_bool, if_true, sq]
      refine evt_bind h14 ?_
      refine evt_bind h15 ?_
      simp only [getS_str, sq]
      exact evt_some _
end Go.Proofs.YtmhhcoccfojiiaaDoor
