/- What the functions of params give: cut, bare, digits, joined, told. -/
import Derived.Test.YtmhhcoccfojiiaaDoorSayD
namespace Go.Proofs.YtmhhcoccfojiiaaDoor
open Go.Ev Go

/-- A text around the first byte of a kind. -/
def aroundF (b : UInt8) : Bs → Option (Bs × Bs)
  | [] => none
  | c :: r => if c = b then some ([], r) else (aroundF b r).map fun p => (c :: p.1, p.2)
theorem around_eq {b : UInt8} : ∀ {s t r : Bs}, aroundF b s = some (t, r) → s = t ++ b :: r
  | [], _, _, h => by simp [aroundF] at h
  | c :: s, t, r, h => by
    unfold aroundF at h
    split at h
    · rename_i e; cases h; simp [e]
    · simp at h
      obtain ⟨a, ha, rfl⟩ := h
      rw [around_eq ha]; rfl
theorem index_around (b : UInt8) : ∀ s : Bs, Lib.indexByte s b = match aroundF b s with | some p => (p.1.length : Int) | none => -1
  | [] => rfl
  | c :: s => by
    unfold Lib.indexByte aroundF
    rw [index_around b s]
    by_cases h : c = b
    · simp [h]
    · have h' : (c == b) = false := by simpa using h
      simp only [h', Bool.false_eq_true, if_false, h]
      cases aroundF b s with
      | none => rfl
      | some p =>
        have : ((p.1.length : Int) == -1) = false := by simp
        simp [this]
/-- A name up to its first star. -/
def baseF (s : Bs) : Bs := match aroundF 42 s with | some p => p.1 | none => s
theorem baseF_le (s : Bs) : (baseF s).length ≤ s.length := by
  unfold baseF
  cases h : aroundF 42 s with
  | none => simp
  | some p => have := congrArg List.length (around_eq h); simp at this ⊢; omega

theorem ret51 (s : Bs) (b : UInt8) : Ret 51 [.str s, .str [b]] [] (.int .i64 (Lib.indexByte s b), []) := ret_hand (h := idxF) rfl rfl
theorem ret36 (s : Bs) (hs : s.length ≤ 1000000) : ∃ r b, Ret 36 [.str s, .str [42]] [] (.tup [.str (baseF s), .str r, .bool b], []) := by
  unfold baseF
  cases h : aroundF 42 s with
  | none =>
    refine ⟨[], false, M36 s ?_⟩
    simp only [T36]
    refine evt_bind (ret51 s 42) ?_
    rw [index_around, h]
    simp only [V.getI, show ¬ ((-1 : Int) ≥ 0) by omega, decide_false, Bool.false_eq_true, if_false]
    exact evt_some _
  | some p =>
    have hl := congrArg List.length (around_eq h)
    simp at hl
    have hw : IntKind.wrap .i64 ((p.1.length : Int) + ((([42] : Bs).length : Nat) : Int)) = ((p.1.length + 1 : Nat) : Int) := by
      rw [show ((([42] : Bs).length : Nat) : Int) = 1 from rfl, wrap64 (by omega) (by omega)]; omega
    have g0 : (p.1.length : Int) ≥ 0 := by omega
    have g1 : (p.1.length : Int) ≤ (s.length : Int) := by omega
    have g2 : ((p.1.length + 1 : Nat) : Int) ≤ (s.length : Int) := by omega
    have g3 : (0 : Int) ≤ ((p.1.length + 1 : Nat) : Int) := by omega
    refine ⟨s.drop (p.1.length + 1), true, M36 s ?_⟩
    simp only [T36]
    obtain ⟨x, hx⟩ : ∃ x : Int, x = (p.1.length : Int) := ⟨_, rfl⟩
    have h51 : Ret 51 [.str s, .str [42]] [] (.int .i64 x, []) := by
      have := ret51 s 42
      rw [index_around, h] at this
      rw [hx]; exact this
    refine evt_bind h51 ?_
    have e1 : (s.take p.1.length) = p.1 := by
      have := around_eq h
      conv => lhs; rw [this]
      simp
    rw [← hx] at hw g0 g1
    show Evt (fun _ _ => if decide (x ≥ 0) = true then
        chk (decide (0 ≤ x)) (chk (decide (x ≤ ((List.length s : Nat) : Int))) (chk (decide ((0 : Int) ≤ 0)) (chk (decide (0 ≤ x)) (chk (decide (0 ≤ (IntKind.wrap IntKind.i64 (x + ((List.length ([42] : Bs) : Nat) : Int))))) (chk (decide ((IntKind.wrap IntKind.i64 (x + ((List.length ([42] : Bs) : Nat) : Int))) ≤ ((List.length s : Nat) : Int))) (some ((V.tup [(V.str (List.drop (Int.toNat (0 : Int)) (List.take (Int.toNat x) s))), (V.str (List.drop (Int.toNat (IntKind.wrap IntKind.i64 (x + ((List.length ([42] : Bs) : Nat) : Int)))) s)), (V.bool true)]), [])))))))
      else some ((V.tup [(V.str s), (V.str []), (V.bool false)]), [])) _
    rw [hw]
    have hxn : x.toNat = p.1.length := by omega
    simp only [g0, decide_true, if_true, ge_iff_le.1 g0, chk_t, chk_p g1, chk_p g2, chk_p g3, chk_p (Int.le_refl 0), hxn, Int.toNat_natCast, Int.toNat_zero, List.drop_zero, e1]
    exact evt_some _
theorem ret21 (s : Bs) (hs : s.length ≤ 1000000) : ∃ r b, Ret 21 [.str s, .str [42]] [] (.tup [.str (baseF s), .str r, .bool b], []) := by
  obtain ⟨r, b, h⟩ := ret36 s hs
  refine ⟨r, b, M21 s ?_⟩
  simp only [T21]
  exact evt_bind h (evt_some _)

/-- A value without its charset and language. -/
def bareF (s : Bs) : Bs := match aroundF 39 s with
  | none => s
  | some p => match aroundF 39 p.2 with | none => s | some q => q.2
theorem bareF_le (s : Bs) : (bareF s).length ≤ s.length := by
  unfold bareF
  cases h : aroundF 39 s with
  | none => simp
  | some p =>
    have h1 := congrArg List.length (around_eq h)
    dsimp only
    cases h' : aroundF 39 p.2 with
    | none => simp
    | some q => have h2 := congrArg List.length (around_eq h'); simp at h1 h2 ⊢; omega
theorem cutK_around (b : UInt8) (k : Nat) (s : Bs) : cutK b (k + 1) s = match aroundF b s with | none => [s] | some p => p.1 :: cutK b k p.2 := by
  rw [cutK, index_around]
  cases h : aroundF b s with
  | none => simp
  | some p =>
    have e := around_eq h
    have h1 : ¬ ((p.1.length : Int) = -1) := by omega
    simp only [h1, if_false, Int.toNat_natCast]
    have e1 : s.take p.1.length = p.1 := by conv => lhs; rw [e]
                                            simp
    have e2 : s.drop (p.1.length + 1) = p.2 := by conv => lhs; rw [e]
                                                  simp
    rw [e1, e2]
theorem ret39 (s : Bs) (hs : s.length ≤ 1000000) : Ret 39 [.str s] [] (.str (bareF s), []) := by
  have h53 : Ret 53 [.str s, .str [39], .int .i64 (3 : Int)] [] (.lst 9 false ((cutK 39 (min (Int.toNat 3) (s.length + 1) - 1) s).map V.str), []) := by
    refine ret_hand (h := splitF) rfl ?_
    have : s.length < 4294967281 := by omega
    simp [splitF, this]
  refine M39 s ?_
  simp only [T39]
  refine evt_bind h53 ?_
  simp only [V.getL, List.length_map]
  generalize hk : cutK 39 (min (Int.toNat 3) (s.length + 1) - 1) s = ps
  have hmain : (ps.length < 3 ∧ bareF s = s) ∨ (∃ a b, ps = [a, b, bareF s]) := by
    unfold bareF
    by_cases h2 : 2 ≤ s.length
    · have : min (Int.toNat 3) (s.length + 1) - 1 = 2 := by simp; omega
      rw [this, cutK_around] at hk
      cases h : aroundF 39 s with
      | none => rw [h] at hk; left; subst hk; simp
      | some p =>
        rw [h] at hk
        simp only [cutK_around] at hk
        cases h' : aroundF 39 p.2 with
        | none => rw [h'] at hk; left; subst hk; exact ⟨by simp, by simp only [h']⟩
        | some q => rw [h'] at hk; right; subst hk; exact ⟨p.1, q.1, by simp [h', cutK]⟩
    · left
      have hsm : (match aroundF 39 s with | none => s | some p => match aroundF 39 p.2 with | none => s | some q => q.2) = s := by
        cases h : aroundF 39 s with
        | none => rfl
        | some p =>
          have h1 := congrArg List.length (around_eq h)
          dsimp only
          cases h' : aroundF 39 p.2 with
          | none => rfl
          | some q => have h3 := congrArg List.length (around_eq h'); simp at h1 h3; omega
      refine ⟨?_, hsm⟩
      have : min (Int.toNat 3) (s.length + 1) - 1 ≤ 1 := by simp; omega
      have hk2 : ∀ k, k ≤ 1 → (cutK 39 k s).length < 3 := by
        intro k hk
        match k, hk with
        | 0, _ => simp [cutK]
        | 1, _ => rw [cutK_around]; cases aroundF 39 s <;> simp [cutK]
      rw [← hk]; exact hk2 _ this
  rcases hmain with ⟨h1, h2⟩ | ⟨a, b, h⟩
  · have g : (ps.length : Int) < 3 := by omega
    simp only [g, decide_true, if_true, h2]
    exact evt_some _
  · subst h
    simp only [List.length_cons, List.length_nil, show ¬ (((0 + 1 + 1 + 1 : Nat) : Int) < 3) by omega, decide_false, Bool.false_eq_true, if_false]
    generalize bareF s = x
    exact evt_some _

/-- A number's digits. -/
def digF (n : Nat) : Bs := if n < 10 then [UInt8.ofNat (48 + n)] else digF (n / 10) ++ [UInt8.ofNat (48 + n % 10)]
termination_by n
theorem digF_small {n : Nat} (h : n < 10) : digF n = [UInt8.ofNat (48 + n)] := by rw [digF, if_pos h]
theorem digF_big {n : Nat} (h : ¬ n < 10) : digF n = digF (n / 10) ++ [UInt8.ofNat (48 + n % 10)] := by rw [digF, if_neg h]
theorem digF_length : ∀ n : Nat, (digF n).length ≤ n + 1 := by
  intro n
  induction n using Nat.strongRecOn with
  | _ n ih =>
    by_cases h : n < 10
    · rw [digF_small h]; simp
    · rw [digF_big h]
      have := ih (n / 10) (by omega)
      simp; omega
theorem enc10 : ∀ d : Fin 10, (Utf8.encode (IntKind.wrap .i32 (IntKind.wrap .i64 (48 + (d.val : Int))))).data.toList = [UInt8.ofNat (48 + d.val)] := by decide +kernel

theorem loop54 : ∀ (n : Nat) (out : Bs), 0 < n → n + out.length ≤ 2000000 → Evt (fun k m => L54 (callN cfg k) m (n : Int) out false) (.str (digF n ++ out), []) := by
  intro n
  induction n using Nat.strongRecOn with
  | _ n ih =>
    intro out hn hb
    refine N54_0 (n : Int) out false ?_
    have h1 : ((n : Int) != 0) = true := by simp; omega
    have h2 : ((10 : Int) != 0) = true := by decide
    have ht : Int.tmod (n : Int) 10 = ((n % 10 : Nat) : Int) := by rw [Int.tmod_eq_emod_of_nonneg (by omega)]; omega
    have hq : IntKind.wrap .i64 (Int.tdiv (n : Int) 10) = ((n / 10 : Nat) : Int) := by
      rw [Int.tdiv_eq_ediv_of_nonneg (by omega), wrap64 (by omega) (by omega)]; omega
    have hm : IntKind.wrap .i64 (0 - ((n % 10 : Nat) : Int)) = -((n % 10 : Nat) : Int) := by rw [wrap64 (by omega) (by omega)]; omega
    have hng : ¬ (-((n % 10 : Nat) : Int) > ((n % 10 : Nat) : Int)) := by omega
    have he := enc10 ⟨n % 10, by omega⟩
    simp only at he
    have hc : catOk [UInt8.ofNat (48 + n % 10)] out = true := cat_ok (by simp; omega)
    simp only [T54_0, h1, if_true, h2, chk_t, ht, hq, hm, hng, if_false, he, chk_b hc]
    by_cases hs : n < 10
    · have e : n / 10 = 0 := by omega
      have e' : n % 10 = n := by omega
      rw [e, e', digF_small hs]
      refine N54_0 ((0 : Nat) : Int) _ false ?_
      have h0 : ((((0 : Nat) : Int)) != 0) = false := by decide
      simp only [T54_0, h0, Bool.false_eq_true, if_false]
      exact evt_some _
    · rw [digF_big hs]
      have := ih (n / 10) (by omega) ([UInt8.ofNat (48 + n % 10)] ++ out) (by omega) (by simp; omega)
      simpa using this
theorem ret54 (n : Nat) (hn : n ≤ 1000001) : Ret 54 [.int .i64 (n : Int)] [] (.str (digF n), []) := by
  refine M54 (n : Int) ?_
  simp only [T54]
  by_cases h : n = 0
  · subst h
    have h0 : ((((0 : Nat) : Int)) == 0) = true := by decide
    simp only [h0, if_true, digF_small (show 0 < 10 by omega)]
    exact evt_some _
  · have h0 : ((n : Int) == 0) = false := by simp; omega
    have h1 : ¬ ((n : Int) < 0) := by omega
    simp only [h0, Bool.false_eq_true, if_false, h1, decide_false]
    have := loop54 n [] (by omega) (by simp; omega)
    simpa using this
end Go.Proofs.YtmhhcoccfojiiaaDoor
