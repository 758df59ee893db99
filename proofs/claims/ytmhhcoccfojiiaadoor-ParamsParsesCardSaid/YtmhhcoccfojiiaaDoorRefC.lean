/- What the document's functions give: pairs, a base's value. -/
import Derived.Test.YtmhhcoccfojiiaaDoorRefB
namespace Go.Proofs.YtmhhcoccfojiiaaDoor
open Go.Ev Go

theorem getS_str (s : Bs) : V.getS (.str s) = s := rfl
theorem getT_tup (l : List V) : V.getT (.tup l) = l := rfl
theorem getB_bool (b : Bool) : V.getB (.bool b) = b := rfl
theorem getI_int (k : IntKind) (n : Int) : V.getI (.int k n) = n := rfl
theorem getL_lst (e : TypeId) (t : Bool) (l : List V) : V.getL (.lst e t l) = l := rfl
/-- A byte in front, as the document asks for it. -/
theorem front_byte (s : Bs) (c : UInt8) (hc : c ≠ 0) :
    (if sEq (skipF s) [] = false then chk (decide ((0 : Int) ≤ 0)) (chk (decide ((0 : Int) < (((skipF s).length : Nat) : Int))) (some ((((UInt8.toNat (List.getD (skipF s) (Int.toNat 0) 0)) : Nat) : Int) != ((c.toNat : Nat) : Int)))) else some true) = some ((byteF c s).isNone) := by
  unfold byteF
  cases h : skipF s with
  | nil => rfl
  | cons x r =>
    have hse : sEq (x :: r) [] = false := rfl
    have hl : (0 : Int) < (((x :: r : Bs).length : Nat) : Int) := by rw [List.length_cons]; omega
    rw [hse, if_pos rfl, chk_p (Int.le_refl 0), chk_p hl]
    show some ((((x.toNat : Nat) : Int) != ((c.toNat : Nat) : Int))) = _
    rw [bne, intB_inj]
    by_cases e : x = c
    · simp [e]
    · have : (x == c) = false := by simpa using e
      simp [e]
theorem front_some {s r : Bs} {c : UInt8} (h : byteF c s = some r) : (1 : Int) ≤ (((skipF s).length : Nat) : Int) ∧ skipF ((skipF s).drop 1) = r := by
  unfold byteF at h
  cases hs : skipF s with
  | nil => rw [hs] at h; cases h
  | cons x q =>
    rw [hs] at h
    simp only at h
    split at h
    · cases h
      exact ⟨by rw [List.length_cons]; omega, rfl⟩
    · cases h

theorem pairs_nil : pairsF [] = [] := by
  have hb : byteF 59 [] = none := by simp [byteF, skipF_nil]
  rw [pairsF_eq, hb]
theorem loop26 : ∀ (n : Nat) (s : Bs) (l : Ps), s.length ≤ n → s.length ≤ 1000000 → l.length + s.length ≤ 1000000 →
    Evt (fun k m => L26 (callN cfg k) m s (l.map pV)) (.lst 62 false ((l ++ pairsF s).map pV), []) := by
  intro n
  induction n with
  | zero =>
    intro s l h hs hl
    have : s = [] := List.eq_nil_of_length_eq_zero (by omega)
    subst this
    refine N26_0 [] (l.map pV) ?_
    simp only [T26_0]
    refine evt_bind (ret24 [] hs) ?_
    rw [pairs_nil, List.append_nil]
    have hse : sEq (skipF []) [] = true := by rw [skipF_nil]; rfl
    simp only [getS_str, hse, Bool.true_eq_false, if_false, bind_s, if_true]
    exact evt_some _
  | succ n ih =>
    intro s l h hs hl
    have f59 := front_byte s 59 (by decide)
    have hsk := skipF_le s
    refine N26_0 s (l.map pV) ?_
    simp only [T26_0]
    refine evt_bind (ret24 s hs) ?_
    dsimp +instances only [getS_str]
    have e59 : ((UInt8.toNat 59 : Nat) : Int) = 59 := rfl
    rw [e59] at f59
    rw [f59, pairsF_eq]
    cases h1 : byteF 59 s with
    | none =>
      simp only [Option.isNone_none, bind_s, if_true, List.append_nil]
      exact evt_some _
    | some s1 =>
      obtain ⟨g0, g00⟩ := front_some h1
      have g1 := byteF_le h1
      have g2 := tokF_le s1
      have hdl : ((skipF s).drop 1).length ≤ 1000000 := by simp; omega
      have hln : ((tokF s1).1.map low8 = []) ↔ (tokF s1).1 = [] := List.map_eq_nil_iff
      simp only [Option.isNone_some, bind_s, Bool.false_eq_true, if_false, chk_p (show (0 : Int) ≤ 1 by omega), chk_p g0, show Int.toNat 1 = 1 from rfl]
      refine evt_bind (ret24 _ hdl) ?_
      dsimp +instances only [getS_str]
      rw [g00]
      refine evt_bind (ret23 s1 (by omega)) ?_
      dsimp +instances only [getT_tup, getS_str, List.headD_cons, List.tail_cons]
      refine evt_bind (ret24 (tokF s1).2 (by omega)) ?_
      dsimp +instances only [getS_str]
      have f61 := front_byte (tokF s1).2 61 (by decide)
      have e61 : ((UInt8.toNat 61 : Nat) : Int) = 61 := rfl
      rw [e61] at f61
      have hor : (if sEq (tokF s1).1 [] = false then (if sEq (skipF (tokF s1).2) [] = false then chk (decide ((0 : Int) ≤ 0)) (chk (decide ((0 : Int) < (((skipF (tokF s1).2).length : Nat) : Int))) (some ((((UInt8.toNat (List.getD (skipF (tokF s1).2) (Int.toNat 0) 0)) : Nat) : Int) != 61))) else some true) else some true)
          = some (decide ((tokF s1).1 = [] ∨ byteF 61 (tokF s1).2 = none)) := by
        rw [f61]
        by_cases ht : (tokF s1).1 = []
        · have : sEq (tokF s1).1 [] = true := by simp [sEq, ht]
          rw [this, if_neg (by decide), decide_eq_true (.inl ht)]
        · have : sEq (tokF s1).1 [] = false := by simp [sEq, ht]
          rw [this, if_pos rfl]
          cases hb : byteF 61 (tokF s1).2 with
          | none => rw [decide_eq_true (.inr rfl)]; rfl
          | some q => rw [decide_eq_false (by rintro (h | h); exact ht h; cases h)]; rfl
      rw [hor]
      simp only [bind_s]
      by_cases ht : (tokF s1).1 = []
      · simp only [ht, true_or, decide_true, if_true, List.append_nil]
        exact evt_some _
      · cases h2 : byteF 61 (tokF s1).2 with
        | none =>
          simp only [ht, or_true, decide_true, if_true, if_false, List.append_nil]
          exact evt_some _
        | some s3 =>
          obtain ⟨k0, k00⟩ := front_some h2
          have g3 := byteF_le h2
          have hsk2 := skipF_le (tokF s1).2
          have hdl2 : ((skipF (tokF s1).2).drop 1).length ≤ 1000000 := by simp; omega
          have hfalse : ¬ ((tokF s1).1 = [] ∨ some s3 = none) := by rintro (h | h); exact ht h; cases h
          simp only [hfalse, decide_false, Bool.false_eq_true, if_false, chk_p (show (0 : Int) ≤ 1 by omega), chk_p k0, show Int.toNat 1 = 1 from rfl, ht]
          refine evt_bind (ret24 _ hdl2) ?_
          dsimp +instances only [getS_str]
          rw [k00]
          have hq : (if (!(sEq s3 [])) = true then chk (decide ((0 : Int) ≤ 0)) (chk (decide ((0 : Int) < ((s3.length : Nat) : Int))) (some ((((UInt8.toNat (List.getD s3 (Int.toNat 0) 0)) : Nat) : Int) == 34))) else some false) = some (decide (s3.head? = some 34)) := by
            cases s3 with
            | nil => rfl
            | cons x r =>
              have hse : sEq (x :: r) [] = false := rfl
              have hl : (0 : Int) < (((x :: r : Bs).length : Nat) : Int) := by rw [List.length_cons]; omega
              rw [hse, if_pos (show (!false) = true from rfl), chk_p (Int.le_refl 0), chk_p hl]
              show some ((((x.toNat : Nat) : Int) == 34)) = _
              rw [show (34 : Int) = ((34 : Nat) : Int) from rfl, intB_lit x 34 (by omega)]
              by_cases e : x = 34
              · simp [e]
              · have : (x == UInt8.ofNat 34) = false := by simpa using e
                rw [this]; simp [e]
          rw [hq]
          simp only [bind_s]
          have next : ∀ (v s4 : Bs), valF s3 = some (v, s4) → appOk (l.map pV) [V.agg [V.str ((tokF s1).1.map low8), V.str v]] 33 = true ∧
              Evt (fun k m => L26 (callN cfg k) m s4 (l.map pV ++ [V.agg [V.str ((tokF s1).1.map low8), V.str v]])) (.lst 62 false ((l ++ ((tokF s1).1.map low8, v) :: pairsF s4).map pV), []) := by
            intro v s4 h3
            have g4 := valF_le h3
            have := ih s4 (l ++ [((tokF s1).1.map low8, v)]) (by omega) (by omega) (by simp; omega)
            refine ⟨app_ok (by simp; omega), ?_⟩
            have e : (l ++ [((tokF s1).1.map low8, v)]).map pV = l.map pV ++ [V.agg [V.str ((tokF s1).1.map low8), V.str v]] := by simp [pV]
            rw [e] at this
            simpa using this
          by_cases h34 : s3.head? = some 34
          · have hval : valF s3 = quoF (s3.drop 1) := by unfold valF; rw [if_pos h34]
            simp only [h34, decide_true, if_true]
            refine evt_bind (ret44 s3 (by omega)) ?_
            rw [hval] at next ⊢
            cases h3 : quoF (s3.drop 1) with
            | none =>
              simp only [getT_tup, getB_bool, List.headD_cons, List.tail_cons, Bool.not_false, if_true, List.append_nil]
              exact evt_some _
            | some p =>
              obtain ⟨v, s4⟩ := p
              obtain ⟨hap, hnx⟩ := next v s4 h3
              simp only [getT_tup, getB_bool, getS_str, List.headD_cons, List.tail_cons, Bool.not_true, Bool.false_eq_true, if_false]
              refine evt_bind (ret25 (tokF s1).1 (by omega)) ?_
              simp only [getS_str, chk_b hap]
              exact hnx
          · have hval : valF s3 = if (tokF s3).1 = [] then none else some (tokF s3) := by unfold valF; rw [if_neg h34]
            simp only [h34, decide_false, Bool.false_eq_true, if_false]
            refine evt_bind (ret23 s3 (by omega)) ?_
            simp only [getT_tup, getS_str, List.headD_cons, List.tail_cons]
            by_cases ht3 : (tokF s3).1 = []
            · have hse : sEq (tokF s3).1 [] = true := by simp [sEq, ht3]
              rw [if_pos ht3] at hval
              rw [hval]
              simp only [hse, if_true, List.append_nil]
              exact evt_some _
            · have hse : sEq (tokF s3).1 [] = false := by simp [sEq, ht3]
              rw [if_neg ht3] at hval
              obtain ⟨hap, hnx⟩ := next (tokF s3).1 (tokF s3).2 hval
              rw [hval]
              simp only [hse, Bool.false_eq_true, if_false]
              refine evt_bind (ret25 (tokF s1).1 (by omega)) ?_
              simp only [getS_str, chk_b hap]
              exact hnx
theorem ret26 (s : Bs) (hs : s.length ≤ 1000000) : Ret 26 [.str s] [] (.lst 62 false ((pairsF s).map pV), []) := by
  refine M26 s ?_
  simp only [T26]
  exact loop26 s.length s [] (Nat.le_refl _) hs (by simpa using hs)

theorem value_at {l : Ps} {k : Nat} (h : k < l.length) : V.getS (List.headD (List.tail (V.cells (List.getD (l.map pV) k V.bot))) V.bot) = l[k].2 := by
  rw [getD_pV h]; rfl
theorem loop28 (l : Ps) (base : Bs) (hl : l.length ≤ 1000000) (hv : ∀ p ∈ l, p.2.length ≤ 1000000) (hb : base.length ≤ 1000000) : ∀ (f n : Nat) (out : Bs), n + f = l.length + 1 → out.length ≤ n * 1000000 →
    (∃ m, n ≤ m ∧ m < n + f ∧ joinS l base m = none) →
    Evt (fun k j => L28 (callN cfg k) j (l.map pV) base out (n : Int)) (.tup [.str (out ++ joinL l base f n), .bool (decide (0 < n) || (joinS l base n).isSome)], [])
  | 0, n, out, _, _, ⟨m, h1, h2, _⟩ => by omega
  | f + 1, n, out, hf, ho, ⟨m, h1, h2, h3⟩ => by
    refine N28_0 (l.map pV) base out (n : Int) ?_
    have hd := digF_length n
    have hle : (n : Int) ≤ (((l.map pV).length : Nat) : Int) := by simp; omega
    have c1 : catOk base [42] = true := cat_ok (by simp; omega)
    have c2 : catOk (base ++ [42]) (digF n) = true := cat_ok (by simp; omega)
    have c3 : catOk ((base ++ [42]) ++ digF n) [42] = true := cat_ok (by simp; omega)
    have hw : IntKind.wrap .i64 ((n : Int) + 1) = ((n + 1 : Nat) : Int) := by rw [wrap64 (by omega) (by omega)]; omega
    have next : ∀ v, joinS l base n = some v → catOk out v = true ∧ Evt (fun k j => L28 (callN cfg k) j (l.map pV) base (out ++ v) ((n + 1 : Nat) : Int)) (.tup [.str (out ++ joinL l base (f + 1) n), .bool (decide (0 < n) || (joinS l base n).isSome)], []) := by
      intro v hj
      obtain ⟨p, hp, _, hle⟩ := joinS_match hj
      have := hv p hp
      refine ⟨cat_ok (by omega), ?_⟩
      have hne : n ≠ m := fun e => by rw [e, h3] at hj; cases hj
      have := loop28 l base hl hv hb f (n + 1) (out ++ v) (by omega) (by simp; omega) ⟨m, by omega, by omega, h3⟩
      rw [joinL, hj]
      simpa using this
    simp only [T28_0, hle, decide_true, if_true, chk_b c1]
    refine evt_bind (ret48 n (by omega)) ?_
    simp only [getS_str, chk_b c2]
    refine evt_bind (ret45 l hl _) ?_
    simp only [chk_b c3]
    refine evt_bind (ret45 l hl _) ?_
    have p1 := posF_find l ((base ++ [42]) ++ digF n)
    have p2 := posF_find l (((base ++ [42]) ++ digF n) ++ [42])
    cases e1 : posF l ((base ++ [42]) ++ digF n) with
    | some j =>
      rw [e1] at p1
      obtain ⟨hj, p1⟩ := p1
      have hjs : joinS l base n = some l[j].2 := by unfold joinS; rw [p1]
      obtain ⟨hc, hn⟩ := next _ hjs
      have g1 : ¬ ((j : Int) < 0) := by omega
      have g2 : (j : Int) ≥ 0 := by omega
      have g3 : (j : Int) < (((l.map pV).length : Nat) : Int) := by simp; omega
      dsimp +instances only [getI_int, posI]
      simp only [g1, decide_false, Bool.false_eq_true, if_false, bind_s, g2, decide_true, if_true, ge_iff_le.1 g2, chk_t, chk_p g3, Int.toNat_natCast, value_at hj, chk_b hc, hw]
      exact hn
    | none =>
      rw [e1] at p1
      have gn : (-1 : Int) < 0 := by omega
      have gn2 : ¬ ((-1 : Int) ≥ 0) := by omega
      cases e2 : posF l (((base ++ [42]) ++ digF n) ++ [42]) with
      | none =>
        rw [e2] at p2
        have hjs : joinS l base n = none := by unfold joinS; rw [p1]; dsimp only; rw [p2]
        rw [joinL, hjs]
        have : (decide ((n : Int) > 0)) = (decide (0 < n) || (none : Option Bs).isSome) := by simp
        dsimp +instances only [getI_int, posI]
        simp only [gn, decide_true, if_true, bind_s, this, List.append_nil]
        exact evt_some _
      | some j =>
        rw [e2] at p2
        obtain ⟨hj, p2⟩ := p2
        have hjs : joinS l base n = some (openF (if n = 0 then bareF l[j].2 else l[j].2)) := by unfold joinS; rw [p1]; dsimp only; rw [p2]
        obtain ⟨hc, hn⟩ := next _ hjs
        have hvl := hv l[j] (List.getElem_mem hj)
        have g1 : ¬ ((j : Int) < 0) := by omega
        have g2 : (0 : Int) ≤ (j : Int) := by omega
        have g3 : (j : Int) < (((l.map pV).length : Nat) : Int) := by simp; omega
        dsimp +instances only [getI_int, posI]
        simp only [gn, decide_true, if_true, bind_s, g1, decide_false, Bool.false_eq_true, if_false, gn2]
        by_cases h0 : n = 0
        · have hb0 : ((n : Int) == 0) = true := by simp [h0]
          rw [if_pos h0] at hc hn
          simp only [hb0, if_true, chk_p g2, chk_p g3, Int.toNat_natCast, value_at hj]
          refine evt_bind (ret47 l[j].2 hvl) ?_
          simp only [getS_str]
          refine evt_bind (ret46 _ (Nat.le_trans (bareF_le _) hvl)) ?_
          simp only [getS_str, chk_b hc, hw]
          exact hn
        · have hb0 : ((n : Int) == 0) = false := by simp [h0]
          rw [if_neg h0] at hc hn
          simp only [hb0, Bool.false_eq_true, if_false, chk_p g2, chk_p g3, Int.toNat_natCast, value_at hj]
          refine evt_bind (ret46 _ hvl) ?_
          simp only [getS_str, chk_b hc, hw]
          exact hn
theorem ret28 (l : Ps) (base : Bs) (hl : l.length ≤ 1000000) (hv : ∀ p ∈ l, p.2.length ≤ 1000000) (hb : base.length ≤ 1000000) :
    Ret 28 [.lst 62 false (l.map pV), .str base] [] (.tup [.str ((toldF l base).getD []), .bool (toldF l base).isSome], []) := by
  refine M28 (l.map pV) base ?_
  have c1 : catOk base [42] = true := cat_ok (by simp; omega)
  have gn2 : ¬ ((-1 : Int) ≥ 0) := by omega
  simp only [T28]
  refine evt_bind (ret45 l hl base) ?_
  have p1 := posF_find l base
  have p2 := posF_find l (base ++ [42])
  unfold toldF
  cases e1 : posF l base with
  | some j =>
    rw [e1] at p1
    obtain ⟨hj, p1⟩ := p1
    have g2 : (j : Int) ≥ 0 := by omega
    have g3 : (j : Int) < (((l.map pV).length : Nat) : Int) := by simp; omega
    rw [p1]
    dsimp +instances only [getI_int, posI]
    simp only [g2, decide_true, if_true, ge_iff_le.1 g2, chk_t, chk_p g3, Int.toNat_natCast, value_at hj, Option.getD_some, Option.isSome_some]
    exact evt_some _
  | none =>
    rw [e1] at p1
    rw [p1]
    dsimp +instances only [getI_int, posI]
    simp only [gn2, decide_false, Bool.false_eq_true, if_false, chk_b c1]
    refine evt_bind (ret45 l hl _) ?_
    cases e2 : posF l (base ++ [42]) with
    | some j =>
      rw [e2] at p2
      obtain ⟨hj, p2⟩ := p2
      have g2 : (j : Int) ≥ 0 := by omega
      have g3 : (j : Int) < (((l.map pV).length : Nat) : Int) := by simp; omega
      have hvl := hv l[j] (List.getElem_mem hj)
      rw [p2]
      dsimp +instances only [getI_int, posI]
      simp only [g2, decide_true, if_true, ge_iff_le.1 g2, chk_t, chk_p g3, Int.toNat_natCast, value_at hj, Option.getD_some, Option.isSome_some]
      refine evt_bind (ret47 _ hvl) ?_
      simp only [getS_str]
      refine evt_bind (ret46 _ (Nat.le_trans (bareF_le _) hvl)) ?_
      exact evt_some _
    | none =>
      rw [e2] at p2
      rw [p2]
      dsimp +instances only [getI_int, posI]
      simp only [gn2, decide_false, Bool.false_eq_true, if_false]
      obtain ⟨m, h1, h2⟩ := joinS_ends l base
      have := loop28 l base hl hv hb (l.length + 1) 0 [] (by omega) (by simp) ⟨m, by omega, by omega, h2⟩
      unfold joinF
      cases hj : joinS l base 0 with
      | none => rw [hj] at this; simpa [joinL, hj] using this
      | some v => rw [hj] at this; simpa [hj] using this
end Go.Proofs.YtmhhcoccfojiiaaDoor
