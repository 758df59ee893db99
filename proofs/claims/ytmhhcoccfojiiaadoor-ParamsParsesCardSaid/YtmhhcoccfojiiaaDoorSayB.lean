/- What the functions of params give: what reads a text. -/
import Derived.Test.YtmhhcoccfojiiaaDoorSayA
namespace Go.Proofs.YtmhhcoccfojiiaaDoor
open Go.Ev Go

/-- What stands behind a comment. -/
def cmtR : Int → Bs → Bs
  | _, [] => []
  | _, [_] => []
  | d, c :: x :: r =>
    if c = 92 then cmtR d r
    else if c = 40 then cmtR (IntKind.wrap .i64 (d + 1)) (x :: r)
    else if c = 41 then (if IntKind.wrap .i64 (d - 1) = 0 then x :: r else cmtR (IntKind.wrap .i64 (d - 1)) (x :: r))
    else cmtR d (x :: r)
theorem cmtR_cons (d : Int) (c : UInt8) (r : Bs) : cmtR d (c :: r) =
    if c = 92 then cmtR d (r.drop 1) else if c = 40 then cmtR (IntKind.wrap .i64 (d + 1)) r
    else if c = 41 then (if IntKind.wrap .i64 (d - 1) = 0 then r else cmtR (IntKind.wrap .i64 (d - 1)) r) else cmtR d r := by
  cases r with
  | nil => simp [cmtR]
  | cons x r => rw [cmtR]; rfl
theorem cmtR_length : ∀ (n : Nat) (d : Int) (s : Bs), s.length ≤ n → (cmtR d s).length ≤ s.length - 1
  | _, _, [], _ => by simp [cmtR]
  | 0, _, c :: r, h => by simp at h
  | n + 1, d, c :: r, h => by
    simp at h
    rw [cmtR_cons]
    have h1 := cmtR_length n d (r.drop 1) (by simp; omega)
    have h2 := cmtR_length n (IntKind.wrap .i64 (d + 1)) r h
    have h3 := cmtR_length n (IntKind.wrap .i64 (d - 1)) r h
    have h4 := cmtR_length n d r h
    simp at h1 h2 h3 h4 ⊢
    split
    · omega
    · split
      · omega
      · split
        · split <;> omega
        · omega

theorem loop32 (s : Bs) (hs : s.length ≤ 1000000) : ∀ (n i : Nat) (d : Int), s.length - i ≤ n → 
    ∃ m : Nat, m ≤ s.length ∧ s.drop m = cmtR d (s.drop i) ∧ Evt (fun k n => L32 (callN cfg k) n d (i : Nat) s) (.int .i64 (m : Nat), [.cells [.str s]]) := by
  have out : ∀ (i : Nat) (d : Int), s.length ≤ i → ∃ m : Nat, m ≤ s.length ∧ s.drop m = cmtR d (s.drop i) ∧ Evt (fun k n => L32 (callN cfg k) n d (i : Nat) s) (.int .i64 (m : Nat), [.cells [.str s]]) := by
    intro i d h
    refine ⟨s.length, Nat.le_refl _, ?_, ?_⟩
    · rw [List.drop_eq_nil_of_le h, List.drop_eq_nil_of_le (Nat.le_refl _)]; rfl
    · refine N32_0 d (i : Nat) s ?_
      have h1 : ¬ ((i : Int) < (s.length : Int)) := by omega
      simp only [T32_0, h1, decide_false, Bool.false_eq_true, if_false]
      exact evt_some _
  intro n
  induction n with
  | zero => intro i d h; exact out i d (by omega)
  | succ n ih =>
    intro i d h
    by_cases hlt : i < s.length
    · have h1 : ((i : Int) < (s.length : Int)) := by omega
      have h2 : (0 : Int) ≤ (i : Int) := by omega
      have hw : IntKind.wrap .i64 ((i : Int) + 1) = ((i + 1 : Nat) : Int) := by rw [wrap64 (by omega) (by omega)]; omega
      have hw2 : IntKind.wrap .i64 (((i + 1 : Nat) : Int) + 1) = ((i + 2 : Nat) : Int) := by rw [wrap64 (by omega) (by omega)]; omega
      have e92 : (((s[i].toNat : Nat) : Int) == (92 : Int)) = (s[i] == 92) := intB_lit s[i] 92 (by omega)
      have e40 : (((s[i].toNat : Nat) : Int) == (40 : Int)) = (s[i] == 40) := intB_lit s[i] 40 (by omega)
      have e41 : (((s[i].toNat : Nat) : Int) == (41 : Int)) = (s[i] == 41) := intB_lit s[i] 41 (by omega)
      rw [drop_at hlt, cmtR_cons]
      have step : ∀ r, Evt (fun k n => T32_0 (callN cfg k) (L32 (callN cfg k) n) d (i : Nat) s) r → Evt (fun k n => L32 (callN cfg k) n d (i : Nat) s) r := fun r hr => N32_0 d (i : Nat) s hr
      by_cases c92 : s[i] = 92
      · obtain ⟨m, g1, g2, g3⟩ := ih (i + 2) d (by omega)
        refine ⟨m, g1, ?_, step _ ?_⟩
        · rw [if_pos c92, g2, List.drop_drop]
        · simp only [T32_0, h1, decide_true, if_true, chk_p h2, chk_t, Int.toNat_natCast, getD_at hlt, e92, c92, beq_self_eq_true, hw, hw2]
          exact g3
      · by_cases c40 : s[i] = 40
        · obtain ⟨m, g1, g2, g3⟩ := ih (i + 1) (IntKind.wrap .i64 (d + 1)) (by omega)
          refine ⟨m, g1, ?_, step _ ?_⟩
          · rw [if_neg c92, if_pos c40, g2]
          · have b92 : (s[i] == 92) = false := by simpa using c92
            simp only [T32_0, h1, decide_true, if_true, chk_p h2, chk_t, Int.toNat_natCast, getD_at hlt, e92, b92, e40, c40, beq_self_eq_true, Bool.false_eq_true, if_false, hw]
            exact g3
        · have b92 : (s[i] == 92) = false := by simpa using c92
          have b40 : (s[i] == 40) = false := by simpa using c40
          by_cases c41 : s[i] = 41
          · by_cases hd : IntKind.wrap .i64 (d - 1) = 0
            · refine ⟨i + 1, by omega, ?_, step _ ?_⟩
              · rw [if_neg c92, if_neg c40, if_pos c41, if_pos hd]
              · simp only [T32_0, h1, decide_true, if_true, chk_p h2, chk_t, Int.toNat_natCast, getD_at hlt, e92, b92, e40, b40, e41, c41, hd, beq_self_eq_true, Bool.false_eq_true, if_false, hw]
                exact evt_some _
            · obtain ⟨m, g1, g2, g3⟩ := ih (i + 1) (IntKind.wrap .i64 (d - 1)) (by omega)
              refine ⟨m, g1, ?_, step _ ?_⟩
              · rw [if_neg c92, if_neg c40, if_pos c41, if_neg hd, g2]
              · have hb : (IntKind.wrap .i64 (d - 1) == 0) = false := by simpa using hd
                simp only [T32_0, h1, decide_true, if_true, chk_p h2, chk_t, Int.toNat_natCast, getD_at hlt, e92, b92, e40, b40, e41, c41, hb, beq_self_eq_true, Bool.false_eq_true, if_false, hw]
                exact g3
          · obtain ⟨m, g1, g2, g3⟩ := ih (i + 1) d (by omega)
            refine ⟨m, g1, ?_, step _ ?_⟩
            · rw [if_neg c92, if_neg c40, if_neg c41, g2]
            · have b41 : (s[i] == 41) = false := by simpa using c41
              simp only [T32_0, h1, decide_true, if_true, chk_p h2, chk_t, Int.toNat_natCast, getD_at hlt, e92, b92, e40, b40, e41, b41, beq_self_eq_true, Bool.false_eq_true, if_false, hw]
              exact g3
    · exact out i d (by omega)
theorem ret32 (s : Bs) (hs : s.length ≤ 1000000) : ∃ m : Nat, m ≤ s.length ∧ s.drop m = cmtR 0 s ∧ Ret 32 [.agg [.ref 0 0]] [.cells [.str s]] (.int .i64 (m : Nat), [.cells [.str s]]) := by
  obtain ⟨m, g1, g2, g3⟩ := loop32 s hs s.length 0 0 (by omega)
  refine ⟨m, g1, by simpa using g2, M32 s ?_⟩
  simp only [T32]
  exact g3

/-- What stands behind blanks and comments. -/
def skipF (s : Bs) : Bs :=
  match s with
  | [] => []
  | c :: r => if blankB c then skipF r else if c = 40 then skipF (cmtR 0 (c :: r)) else c :: r
termination_by s.length
decreasing_by
  · simp
  · have := cmtR_length _ 0 (c :: r) (Nat.le_refl _); simp at this ⊢; omega

theorem skipF_cons (c : UInt8) (r : Bs) : skipF (c :: r) = if blankB c then skipF r else if c = 40 then skipF (cmtR 0 (c :: r)) else c :: r := by rw [skipF]
theorem skipF_nil : skipF [] = [] := by rw [skipF]
theorem skipF_length : ∀ (n : Nat) (s : Bs), s.length ≤ n → (skipF s).length ≤ s.length
  | _, [], _ => by simp [skipF_nil]
  | 0, c :: r, h => by simp at h
  | n + 1, c :: r, h => by
    rw [skipF_cons]
    have h0 := cmtR_length _ 0 (c :: r) (Nat.le_refl _)
    simp at h h0 ⊢
    split
    · have := skipF_length n r (by omega); omega
    · split
      · have := skipF_length n (cmtR 0 (c :: r)) (by omega); omega
      · simp
theorem skipF_le (s : Bs) : (skipF s).length ≤ s.length := skipF_length _ s (Nat.le_refl _)

theorem loop16 : ∀ (n : Nat) (s : Bs), s.length ≤ n → s.length ≤ 1000000 → Evt (fun k n => L16 (callN cfg k) n s) (.tup [], [.cells [.str (skipF s)]])
  | _, [], _, _ => by
    refine N16_0 [] ?_
    simp only [T16_0, skipF_nil, List.length_nil]
    exact evt_some _
  | 0, c :: r, h, _ => by simp at h
  | n + 1, c :: r, h, hs => by
    refine N16_0 (c :: r) ?_
    have h1 : (((c :: r).length : Nat) : Int) > 0 := by rw [List.length_cons]; omega
    have h2 : (1 : Int) ≤ (((c :: r).length : Nat) : Int) := by rw [List.length_cons]; omega
    simp only [T16_0, h1, decide_true, if_true]
    refine evt_bind (ret30 (c :: r) 0) ?_
    simp only [V.getI, List.getD_cons_zero]
    refine evt_bind (ret31 c) ?_
    have e40 : (((c.toNat : Nat) : Int) == (40 : Int)) = (c == 40) := intB_lit c 40 (by omega)
    simp only [V.getB, e40]
    rw [skipF_cons]
    cases hb : blankB c
    · simp only [Bool.false_eq_true, if_false]
      by_cases hc : c = 40
      · simp only [hc, beq_self_eq_true, if_true]
        obtain ⟨m, g1, g2, g3⟩ := ret32 (40 :: r) (by subst hc; exact hs)
        refine evt_bind g3 ?_
        have h3 : (0 : Int) ≤ (m : Int) := by omega
        have h4 : (m : Int) ≤ (((40 :: r : Bs).length : Nat) : Int) := by omega
        simp only [V.getI, chk_p h3, chk_p h4, Int.toNat_natCast]
        rw [g2]
        have := cmtR_length _ 0 (40 :: r) (Nat.le_refl _)
        simp at this h hs
        exact loop16 n _ (by omega) (by omega)
      · have hc' : (c == 40) = false := by simpa using hc
        simp only [hc', hc, Bool.false_eq_true, if_false]
        exact evt_some _
    · simp only [if_true, chk_p h2, chk_p (show (0 : Int) ≤ 1 by omega)]
      simp at h hs
      exact loop16 n r (by omega) (by omega)
theorem ret16 (s : Bs) (hs : s.length ≤ 1000000) : Ret 16 [.agg [.ref 0 0]] [.cells [.str s]] (.tup [], [.cells [.str (skipF s)]]) := by
  refine M16 s ?_
  simp only [T16]
  exact loop16 _ s (Nat.le_refl _) hs

/-- A byte that is taken, behind what is skipped. -/
def byteF (c : UInt8) (s : Bs) : Option Bs :=
  match skipF s with
  | [] => none
  | x :: r => if x = c then some (skipF r) else none
theorem byteF_le {c : UInt8} {s r : Bs} (h : byteF c s = some r) : r.length < s.length := by
  unfold byteF at h
  have h0 := skipF_le s
  split at h
  · cases h
  · rename_i x r' he
    split at h
    · cases h
      have := skipF_le r'
      rw [he] at h0; simp at h0; omega
    · cases h
/-- What is left, if it isn't there. -/
def byteR (c : UInt8) (s : Bs) : Bs := match byteF c s with | some r => r | none => skipF s
theorem ret19 (s : Bs) (hs : s.length ≤ 1000000) (c : UInt8) (hc : c ≠ 0) : Ret 19 [.agg [.ref 0 0], .int .u8 (c.toNat : Nat)] [.cells [.str s]] (.bool (byteF c s).isSome, [.cells [.str (byteR c s)]]) := by
  refine M19 s (c.toNat : Nat) ?_
  simp only [T19]
  refine evt_bind (ret16 s hs) ?_
  simp only [List.headD_cons, Ob.getC, V.getS]
  refine evt_bind (ret30 (skipF s) 0) ?_
  simp only [V.getI]
  have h0 := skipF_le s
  unfold byteR byteF
  cases he : skipF s with
  | nil =>
    have hb : ((((([] : Bs).getD 0 0).toNat : Nat) : Int) != ((c.toNat : Nat) : Int)) = true := by
      have : c.toNat ≠ 0 := fun e => hc (UInt8.toNat_inj.1 e)
      simp; omega
    simp only [hb, if_true]
    exact evt_some _
  | cons x r =>
    rw [he] at h0; simp at h0
    have hb : (((((x :: r : Bs).getD 0 0).toNat : Nat) : Int) != ((c.toNat : Nat) : Int)) = !(x == c) := by
      rw [List.getD_cons_zero, bne, intB_inj]
    simp only [hb]
    by_cases hx : x = c
    · have h2 : (1 : Int) ≤ (((x :: r : Bs).length : Nat) : Int) := by rw [List.length_cons]; omega
      simp only [hx, beq_self_eq_true, Bool.not_true, Bool.false_eq_true, if_false, if_true]
      rw [hx] at h2
      simp only [chk_p h2, chk_p (show (0 : Int) ≤ 1 by omega)]
      refine evt_bind (ret16 r (by omega)) ?_
      exact evt_some _
    · have hx' : (x == c) = false := by simpa using hx
      simp only [hx', hx, Bool.not_false, if_true, if_false]
      exact evt_some _
end Go.Proofs.YtmhhcoccfojiiaaDoor
