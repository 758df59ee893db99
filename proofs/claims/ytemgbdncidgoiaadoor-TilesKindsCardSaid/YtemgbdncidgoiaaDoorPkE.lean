/- Lemmas for the claim, merged: the plain reading of the program's functions, its soundness, and what they compute. -/
import Derived.Test.YtemgbdncidgoiaaDoorPkD
import Derived.KernelRfl
set_option linter.all false
set_option linter.unusedVariables false
set_option linter.unusedSimpArgs false
section
namespace Go.Proofs.YtemgbdncidgoiaaDoor
open Go.Ev Go
def specials : Bs := [40, 41, 60, 62, 64, 44, 59, 58, 92, 34, 47, 91, 93, 63, 61]
def tokB (c : UInt8) : Bool := 33 ≤ c && c ≤ 126 && !specials.contains c
def blankB (c : UInt8) : Bool := c == 32 || c == 9
theorem intB_inj (a b : UInt8) : (((a.toNat : Nat) : Int) == ((b.toNat : Nat) : Int)) = (a == b) := by
  by_cases h : a = b
  · subst h; simp
  · have : a.toNat ≠ b.toNat := fun e => h (UInt8.toNat_inj.1 e)
    have h1 : (a == b) = false := by simpa using h
    rw [h1]; simp; omega
theorem intB_lit (a : UInt8) (n : Nat) (h : n < 256) : (((a.toNat : Nat) : Int) == (n : Int)) = (a == UInt8.ofNat n) := by
  have : (UInt8.ofNat n).toNat = n := by simp; omega
  have := intB_inj a (UInt8.ofNat n)
  rwa [‹(UInt8.ofNat n).toNat = n›] at this
theorem intB_le (a b : UInt8) : (((a.toNat : Nat) : Int) ≤ ((b.toNat : Nat) : Int)) ↔ a ≤ b := by
  rw [UInt8.le_iff_toNat_le]; omega
theorem ret99 (s : Bs) (i : Nat) : Ret 99 [.ref 0 0, .int .i64 i] [.cells [.str s]] (.int .u8 ((s.getD i 0).toNat : Nat), [.cells [.str s]]) := by
  refine M99 s i ?_
  simp only [T99]
  by_cases h : i < s.length
  · have h1 : ¬ ((i : Int) ≥ (s.length : Int)) := by omega
    have h2 : (i : Int) < (s.length : Int) := by omega
    have h3 : (0 : Int) ≤ (i : Int) := by omega
    simp only [h1, decide_false, Bool.false_eq_true, if_false, chk_p h2, chk_p h3, Int.toNat_natCast]
    exact evt_some _
  · have h1 : ((i : Int) ≥ (s.length : Int)) := by omega
    have h4 : s.getD i 0 = 0 := by simp [List.getD, List.getElem?_eq_none (by omega : s.length ≤ i)]
    simp only [h1, decide_true, if_true, h4]
    exact evt_some _
theorem ret78 (c : UInt8) : Ret 78 [.int .u8 (c.toNat : Nat)] [] (.bool (blankB c), []) := by
  refine M78 (c.toNat : Nat) ?_
  have h32 : (((c.toNat : Nat) : Int) == (32 : Int)) = (c == 32) := intB_lit c 32 (by omega)
  have h9 : (((c.toNat : Nat) : Int) == (9 : Int)) = (c == 9) := intB_lit c 9 (by omega)
  simp only [T78, h32, h9, blankB]
  cases h : (c == 32)
  · simp only [if_true, bind_s, Bool.false_or]; exact evt_some _
  · simp only [Bool.true_eq_false, if_false, bind_s, Bool.true_or]; exact evt_some _
theorem decode_plain (s : Bs) (i : Nat) (h : i < s.length) (hb : s[i] < 128) : Utf8.decode ⟨s.toArray⟩ i = (s[i].toNat, 1) := by
  have e : (ByteArray.get! ⟨s.toArray⟩ (i + 0)).toNat = s[i].toNat := by simp [ByteArray.get!, h]
  have hlt : s[i].toNat < 0x80 := by have := UInt8.lt_iff_toNat_lt.1 hb; simpa using this
  unfold Utf8.decode
  simp only [e, hlt, if_true]
theorem loop111 (c : UInt8) (s : Bs) (hs : ∀ b ∈ s, b < 128) : ∀ (n i : Nat), s.length - i = n → i ≤ s.length →
    Evt (fun k n => L111 (callN cfg k) n (c.toNat : Nat) s (i : Nat)) (.bool ((s.drop i).contains c), [])
  | 0, i, h, hi => by
    refine N111_0 (c.toNat : Nat) s (i : Nat) ?_
    have h1 : ¬ (i < s.length) := by omega
    have h2 : s.drop i = [] := List.drop_eq_nil_of_le (by omega)
    simp only [T111_0, Int.toNat_natCast, h1, if_false, h2, List.contains_nil]
    exact evt_some _
  | n + 1, i, h, hi => by
    refine N111_0 (c.toNat : Nat) s (i : Nat) ?_
    have h1 : i < s.length := by omega
    have hd := decode_plain s i h1 (hs _ (List.getElem_mem h1))
    have hw : IntKind.wrap .i32 ((c.toNat : Nat) : Int) = ((c.toNat : Nat) : Int) := by
      rw [IntKind.wrap_i32]; have := c.toNat_lt; omega
    simp only [T111_0, Int.toNat_natCast, h1, if_true, hd, hw, intB_inj]
    rw [drop_at h1]
    cases he : (s[i] == c)
    · have hx : (s[i] :: s.drop (i + 1)).contains c = (s.drop (i + 1)).contains c := by
        have : (c == s[i]) = false := by rw [BEq.comm]; exact he
        rw [List.contains_cons, this]; simp
      simp only [Bool.false_eq_true, if_false, hx]
      exact loop111 c s hs n (i + 1) (by omega) (by omega)
    · have hx : (s[i] :: s.drop (i + 1)).contains c = true := by
        have : (c == s[i]) = true := by rw [BEq.comm]; exact he
        rw [List.contains_cons, this]; simp
      simp only [if_true, hx]
      exact evt_some _
theorem ret111 (c : UInt8) (s : Bs) (hs : ∀ b ∈ s, b < 128) : Ret 111 [.str s, .int .u8 (c.toNat : Nat)] [] (.bool (s.contains c), []) := by
  refine M111 s (c.toNat : Nat) ?_
  simp only [T111]
  exact loop111 c s hs _ 0 rfl (by omega)
theorem ret101 (c : UInt8) : Ret 101 [.int .u8 (c.toNat : Nat)] [] (.bool (tokB c), []) := by
  refine M101 (c.toNat : Nat) ?_
  simp only [T101, tokB]
  by_cases h1 : 33 ≤ c
  · have g1 : ((c.toNat : Nat) : Int) ≥ 33 := (intB_le 33 c).2 h1
    by_cases h2 : c ≤ 126
    · have g2 : ((c.toNat : Nat) : Int) ≤ 126 := (intB_le c 126).2 h2
      simp only [g1, g2, h1, h2, decide_true, if_true, Bool.true_and]
      refine evt_bind (ret111 c specials (by decide)) ?_
      exact evt_some _
    · have g2 : ¬ ((c.toNat : Nat) : Int) ≤ 126 := fun e => h2 ((intB_le c 126).1 e)
      simp only [g1, g2, h1, h2, decide_true, decide_false, if_true, Bool.false_eq_true, if_false, Bool.true_and, Bool.false_and]
      exact evt_some _
  · have g1 : ¬ ((c.toNat : Nat) : Int) ≥ 33 := fun e => h1 ((intB_le 33 c).1 e)
    simp only [g1, h1, decide_false, Bool.false_eq_true, if_false, Bool.false_and]
    exact evt_some _
theorem ret65 (s : Bs) (hs : s.length < 4294967281) : Ret 65 [.str s] [] (.str (s.map low8), []) :=
  ret_hand (h := foldF) rfl (by simp [foldF, hs])
theorem ret62 (a b : Bs) (ha : a.length < 4294967281) (hb : b.length < 4294967281) : Ret 62 [.str a, .str b] [] (.bool (a.map low8 == b.map low8), []) := by
  refine M62 a b ?_
  simp only [T62]
  refine evt_bind (ret65 a ha) (evt_bind (ret65 b hb) ?_)
  exact evt_some _
def tokF (s : Bs) : Bs × Bs := (s.takeWhile tokB, s.dropWhile tokB)
theorem loop81 (s : Bs) (hs : s.length ≤ 1000000) : ∀ (n i : Nat), s.length - i = n → i ≤ s.length → (∀ j (h : j < s.length), j < i → tokB s[j] = true) →
    Evt (fun k n => L81 (callN cfg k) n (i : Nat) s) (.str (tokF s).1, [.cells [.str (tokF s).2]]) := by
  have fin : ∀ i : Nat, i ≤ s.length → (∀ j (h : j < s.length), j < i → tokB s[j] = true) → (∀ h : i < s.length, tokB s[i] = false) → (tokF s).1 = s.take i ∧ (tokF s).2 = s.drop i := by
    intro i hi h1 h2
    have e : s = s.take i ++ s.drop i := (List.take_append_drop i s).symm
    have h3 : ∀ b ∈ s.take i, tokB b = true := by
      intro b hb
      obtain ⟨j, hj, rfl⟩ := List.getElem_of_mem hb
      have hj' : j < i ∧ j < s.length := by rw [List.length_take] at hj; omega
      rw [List.getElem_take]
      exact h1 j hj'.2 hj'.1
    have h4 : (s.drop i).takeWhile tokB = [] ∧ (s.drop i).dropWhile tokB = s.drop i := by
      by_cases hlt : i < s.length
      · rw [drop_at hlt, List.takeWhile_cons_of_neg (by simp [h2 hlt]), List.dropWhile_cons_of_neg (by simp [h2 hlt])]; exact ⟨rfl, rfl⟩
      · rw [List.drop_eq_nil_of_le (by omega)]; simp
    unfold tokF
    constructor
    · show s.takeWhile tokB = _
      conv => lhs; rw [e]
      rw [List.takeWhile_append_of_pos h3, h4.1, List.append_nil]
    · show s.dropWhile tokB = _
      conv => lhs; rw [e]
      rw [List.dropWhile_append_of_pos h3, h4.2]
  intro n
  induction n with
  | zero =>
    intro i h hi hb
    refine N81_0 (i : Nat) s ?_
    have h1 : ¬ ((i : Int) < (s.length : Int)) := by omega
    have h2 : (0 : Int) ≤ (i : Int) := by omega
    have h3 : ((i : Int) ≤ (s.length : Int)) := by omega
    obtain ⟨e1, e2⟩ := fin i hi hb (fun h => by omega)
    simp only [T81_0, h1, decide_false, Bool.false_eq_true, if_false, chk_p h2, chk_p h3, chk_p (Int.le_refl 0), Int.toNat_natCast, e1, e2]
    exact evt_some _
  | succ n ih =>
    intro i h hi hb
    refine N81_0 (i : Nat) s ?_
    have hlt : i < s.length := by omega
    have h1 : ((i : Int) < (s.length : Int)) := by omega
    have h2 : (0 : Int) ≤ (i : Int) := by omega
    have h3 : ((i : Int) ≤ (s.length : Int)) := by omega
    have hw : IntKind.wrap .i64 ((i : Int) + 1) = ((i + 1 : Nat) : Int) := by rw [wrap64 (by omega) (by omega)]; omega
    simp only [T81_0, h1, decide_true, if_true, chk_p h2, chk_p h3, chk_t, chk_p (Int.le_refl 0), Int.toNat_natCast, getD_at hlt]
    refine evt_bind (ret101 s[i]) ?_
    simp only [V.getB, hw]
    cases ht : tokB s[i]
    · obtain ⟨e1, e2⟩ := fin i hi hb (fun _ => ht)
      simp only [Bool.false_eq_true, if_false, e1, e2]
      exact evt_some _
    · simp only [if_true]
      refine ih (i + 1) (by omega) (by omega) fun j hj hji => ?_
      by_cases e : j = i
      · subst e; exact ht
      · exact hb j hj (by omega)
theorem ret81 (s : Bs) (hs : s.length ≤ 1000000) : Ret 81 [.agg [.ref 0 0]] [.cells [.str s]] (.str (tokF s).1, [.cells [.str (tokF s).2]]) := by
  refine M81 s ?_
  simp only [T81]
  exact loop81 s hs _ 0 rfl (by omega) (fun j h hj => by omega)
end Go.Proofs.YtemgbdncidgoiaaDoor
end
section
namespace Go.Proofs.YtemgbdncidgoiaaDoor
open Go.Ev Go
def cmtR : Int → Bs → Bs
  | _, [] => []
  | _, [_] => []
  | d, c :: x :: r =>
    if c = 92 then cmtR d r
    else if c = 40 then cmtR (IntKind.wrap .i64 (d + 1)) (x :: r)
    else if c = 41 then (if IntKind.wrap .i64 (d - 1) = 0 then x :: r else cmtR (IntKind.wrap .i64 (d - 1)) (x :: r))
    else cmtR d (x :: r)
theorem cmtR_cons (d : Int) (c : UInt8) (r : Bs) : cmtR d (c :: r) =
    if c = 92 then cmtR d (r.drop 1) else if c = 40 then cmtR (IntKind.wrap .i64 (d + 1)) r
    else if c = 41 then (if IntKind.wrap .i64 (d - 1) = 0 then r else cmtR (IntKind.wrap .i64 (d - 1)) r) else cmtR d r := by
  cases r with
  | nil => simp [cmtR]
  | cons x r => rw [cmtR]; rfl
theorem cmtR_length : ∀ (n : Nat) (d : Int) (s : Bs), s.length ≤ n → (cmtR d s).length ≤ s.length - 1
  | _, _, [], _ => by simp [cmtR]
  | 0, _, c :: r, h => by simp at h
  | n + 1, d, c :: r, h => by
    simp at h
    rw [cmtR_cons]
    have h1 := cmtR_length n d (r.drop 1) (by simp; omega)
    have h2 := cmtR_length n (IntKind.wrap .i64 (d + 1)) r h
    have h3 := cmtR_length n (IntKind.wrap .i64 (d - 1)) r h
    have h4 := cmtR_length n d r h
    simp at h1 h2 h3 h4 ⊢
    split
    · omega
    · split
      · omega
      · split
        · split <;> omega
        · omega
theorem loop100 (s : Bs) (hs : s.length ≤ 1000000) : ∀ (n i : Nat) (d : Int), s.length - i ≤ n →
    ∃ m : Nat, m ≤ s.length ∧ s.drop m = cmtR d (s.drop i) ∧ Evt (fun k n => L100 (callN cfg k) n d (i : Nat) s) (.int .i64 (m : Nat), [.cells [.str s]]) := by
  have out : ∀ (i : Nat) (d : Int), s.length ≤ i → ∃ m : Nat, m ≤ s.length ∧ s.drop m = cmtR d (s.drop i) ∧ Evt (fun k n => L100 (callN cfg k) n d (i : Nat) s) (.int .i64 (m : Nat), [.cells [.str s]]) := by
    intro i d h
    refine ⟨s.length, Nat.le_refl _, ?_, ?_⟩
    · rw [List.drop_eq_nil_of_le h, List.drop_eq_nil_of_le (Nat.le_refl _)]; rfl
    · refine N100_0 d (i : Nat) s ?_
      have h1 : ¬ ((i : Int) < (s.length : Int)) := by omega
      simp only [T100_0, h1, decide_false, Bool.false_eq_true, if_false]
      exact evt_some _
  intro n
  induction n with
  | zero => intro i d h; exact out i d (by omega)
  | succ n ih =>
    intro i d h
    by_cases hlt : i < s.length
    · have h1 : ((i : Int) < (s.length : Int)) := by omega
      have h2 : (0 : Int) ≤ (i : Int) := by omega
      have hw : IntKind.wrap .i64 ((i : Int) + 1) = ((i + 1 : Nat) : Int) := by rw [wrap64 (by omega) (by omega)]; omega
      have hw2 : IntKind.wrap .i64 (((i + 1 : Nat) : Int) + 1) = ((i + 2 : Nat) : Int) := by rw [wrap64 (by omega) (by omega)]; omega
      have e92 : (((s[i].toNat : Nat) : Int) == (92 : Int)) = (s[i] == 92) := intB_lit s[i] 92 (by omega)
      have e40 : (((s[i].toNat : Nat) : Int) == (40 : Int)) = (s[i] == 40) := intB_lit s[i] 40 (by omega)
      have e41 : (((s[i].toNat : Nat) : Int) == (41 : Int)) = (s[i] == 41) := intB_lit s[i] 41 (by omega)
      rw [drop_at hlt, cmtR_cons]
      have step : ∀ r, Evt (fun k n => T100_0 (callN cfg k) (L100 (callN cfg k) n) d (i : Nat) s) r → Evt (fun k n => L100 (callN cfg k) n d (i : Nat) s) r := fun r hr => N100_0 d (i : Nat) s hr
      by_cases c92 : s[i] = 92
      · obtain ⟨m, g1, g2, g3⟩ := ih (i + 2) d (by omega)
        refine ⟨m, g1, ?_, step _ ?_⟩
        · rw [if_pos c92, g2, List.drop_drop]
        · simp only [T100_0, h1, decide_true, if_true, chk_p h2, chk_t, Int.toNat_natCast, getD_at hlt, e92, c92, beq_self_eq_true, hw, hw2]
          exact g3
      · by_cases c40 : s[i] = 40
        · obtain ⟨m, g1, g2, g3⟩ := ih (i + 1) (IntKind.wrap .i64 (d + 1)) (by omega)
          refine ⟨m, g1, ?_, step _ ?_⟩
          · rw [if_neg c92, if_pos c40, g2]
          · have b92 : (s[i] == 92) = false := by simpa using c92
            simp only [T100_0, h1, decide_true, if_true, chk_p h2, chk_t, Int.toNat_natCast, getD_at hlt, e92, b92, e40, c40, beq_self_eq_true, Bool.false_eq_true, if_false, hw]
            exact g3
        · have b92 : (s[i] == 92) = false := by simpa using c92
          have b40 : (s[i] == 40) = false := by simpa using c40
          by_cases c41 : s[i] = 41
          · by_cases hd : IntKind.wrap .i64 (d - 1) = 0
            · refine ⟨i + 1, by omega, ?_, step _ ?_⟩
              · rw [if_neg c92, if_neg c40, if_pos c41, if_pos hd]
              · simp only [T100_0, h1, decide_true, if_true, chk_p h2, chk_t, Int.toNat_natCast, getD_at hlt, e92, b92, e40, b40, e41, c41, hd, beq_self_eq_true, Bool.false_eq_true, if_false, hw]
                exact evt_some _
            · obtain ⟨m, g1, g2, g3⟩ := ih (i + 1) (IntKind.wrap .i64 (d - 1)) (by omega)
              refine ⟨m, g1, ?_, step _ ?_⟩
              · rw [if_neg c92, if_neg c40, if_pos c41, if_neg hd, g2]
              · have hb : (IntKind.wrap .i64 (d - 1) == 0) = false := by simpa using hd
                simp only [T100_0, h1, decide_true, if_true, chk_p h2, chk_t, Int.toNat_natCast, getD_at hlt, e92, b92, e40, b40, e41, c41, hb, beq_self_eq_true, Bool.false_eq_true, if_false, hw]
                exact g3
          · obtain ⟨m, g1, g2, g3⟩ := ih (i + 1) d (by omega)
            refine ⟨m, g1, ?_, step _ ?_⟩
            · rw [if_neg c92, if_neg c40, if_neg c41, g2]
            · have b41 : (s[i] == 41) = false := by simpa using c41
              simp only [T100_0, h1, decide_true, if_true, chk_p h2, chk_t, Int.toNat_natCast, getD_at hlt, e92, b92, e40, b40, e41, b41, beq_self_eq_true, Bool.false_eq_true, if_false, hw]
              exact g3
    · exact out i d (by omega)
theorem ret100 (s : Bs) (hs : s.length ≤ 1000000) : ∃ m : Nat, m ≤ s.length ∧ s.drop m = cmtR 0 s ∧ Ret 100 [.agg [.ref 0 0]] [.cells [.str s]] (.int .i64 (m : Nat), [.cells [.str s]]) := by
  obtain ⟨m, g1, g2, g3⟩ := loop100 s hs s.length 0 0 (by omega)
  refine ⟨m, g1, by simpa using g2, M100 s ?_⟩
  simp only [T100]
  exact g3
def skipF (s : Bs) : Bs :=
  match s with
  | [] => []
  | c :: r => if blankB c then skipF r else if c = 40 then skipF (cmtR 0 (c :: r)) else c :: r
termination_by s.length
decreasing_by
  · simp
  · have := cmtR_length _ 0 (c :: r) (Nat.le_refl _); simp at this ⊢; omega
theorem skipF_cons (c : UInt8) (r : Bs) : skipF (c :: r) = if blankB c then skipF r else if c = 40 then skipF (cmtR 0 (c :: r)) else c :: r := by rw [skipF]
theorem skipF_nil : skipF [] = [] := by rw [skipF]
theorem skipF_length : ∀ (n : Nat) (s : Bs), s.length ≤ n → (skipF s).length ≤ s.length
  | _, [], _ => by simp [skipF_nil]
  | 0, c :: r, h => by simp at h
  | n + 1, c :: r, h => by
    rw [skipF_cons]
    have h0 := cmtR_length _ 0 (c :: r) (Nat.le_refl _)
    simp at h h0 ⊢
    split
    · have := skipF_length n r (by omega); omega
    · split
      · have := skipF_length n (cmtR 0 (c :: r)) (by omega); omega
      · simp
theorem skipF_le (s : Bs) : (skipF s).length ≤ s.length := skipF_length _ s (Nat.le_refl _)
theorem loop80 : ∀ (n : Nat) (s : Bs), s.length ≤ n → s.length ≤ 1000000 → Evt (fun k n => L80 (callN cfg k) n s) (.tup [], [.cells [.str (skipF s)]])
  | _, [], _, _ => by
    refine N80_0 [] ?_
    simp only [T80_0, skipF_nil, List.length_nil]
    exact evt_some _
  | 0, c :: r, h, _ => by simp at h
  | n + 1, c :: r, h, hs => by
    refine N80_0 (c :: r) ?_
    have h1 : (((c :: r).length : Nat) : Int) > 0 := by rw [List.length_cons]; omega
    have h2 : (1 : Int) ≤ (((c :: r).length : Nat) : Int) := by rw [List.length_cons]; omega
    simp only [T80_0, h1, decide_true, if_true]
    refine evt_bind (ret99 (c :: r) 0) ?_
    simp only [V.getI, List.getD_cons_zero]
    refine evt_bind (ret78 c) ?_
    have e40 : (((c.toNat : Nat) : Int) == (40 : Int)) = (c == 40) := intB_lit c 40 (by omega)
    simp only [V.getB, e40]
    rw [skipF_cons]
    cases hb : blankB c
    · simp only [Bool.false_eq_true, if_false]
      by_cases hc : c = 40
      · simp only [hc, beq_self_eq_true, if_true]
        obtain ⟨m, g1, g2, g3⟩ := ret100 (40 :: r) (by subst hc; exact hs)
        refine evt_bind g3 ?_
        have h3 : (0 : Int) ≤ (m : Int) := by omega
        have h4 : (m : Int) ≤ (((40 :: r : Bs).length : Nat) : Int) := by omega
        simp only [V.getI, chk_p h3, chk_p h4, Int.toNat_natCast]
        rw [g2]
        have := cmtR_length _ 0 (40 :: r) (Nat.le_refl _)
        simp at this h hs
        exact loop80 n _ (by omega) (by omega)
      · have hc' : (c == 40) = false := by simpa using hc
        simp only [hc', hc, Bool.false_eq_true, if_false]
        exact evt_some _
    · simp only [if_true, chk_p h2, chk_p (show (0 : Int) ≤ 1 by omega)]
      simp at h hs
      exact loop80 n r (by omega) (by omega)
theorem ret80 (s : Bs) (hs : s.length ≤ 1000000) : Ret 80 [.agg [.ref 0 0]] [.cells [.str s]] (.tup [], [.cells [.str (skipF s)]]) := by
  refine M80 s ?_
  simp only [T80]
  exact loop80 _ s (Nat.le_refl _) hs
def byteF (c : UInt8) (s : Bs) : Option Bs :=
  match skipF s with
  | [] => none
  | x :: r => if x = c then some (skipF r) else none
theorem byteF_le {c : UInt8} {s r : Bs} (h : byteF c s = some r) : r.length < s.length := by
  unfold byteF at h
  have h0 := skipF_le s
  split at h
  · cases h
  · rename_i x r' he
    split at h
    · cases h
      have := skipF_le r'
      rw [he] at h0; simp at h0; omega
    · cases h
def byteR (c : UInt8) (s : Bs) : Bs := match byteF c s with | some r => r | none => skipF s
theorem ret82 (s : Bs) (hs : s.length ≤ 1000000) (c : UInt8) (hc : c ≠ 0) : Ret 82 [.agg [.ref 0 0], .int .u8 (c.toNat : Nat)] [.cells [.str s]] (.bool (byteF c s).isSome, [.cells [.str (byteR c s)]]) := by
  refine M82 s (c.toNat : Nat) ?_
  simp only [T82]
  refine evt_bind (ret80 s hs) ?_
  simp only [List.headD_cons, Ob.getC, V.getS]
  refine evt_bind (ret99 (skipF s) 0) ?_
  simp only [V.getI]
  have h0 := skipF_le s
  unfold byteR byteF
  cases he : skipF s with
  | nil =>
    have hb : ((((([] : Bs).getD 0 0).toNat : Nat) : Int) != ((c.toNat : Nat) : Int)) = true := by
      have : c.toNat ≠ 0 := fun e => hc (UInt8.toNat_inj.1 e)
      simp; omega
    simp only [hb, if_true]
    exact evt_some _
  | cons x r =>
    rw [he] at h0; simp at h0
    have hb : (((((x :: r : Bs).getD 0 0).toNat : Nat) : Int) != ((c.toNat : Nat) : Int)) = !(x == c) := by
      rw [List.getD_cons_zero, bne, intB_inj]
    simp only [hb]
    by_cases hx : x = c
    · have h2 : (1 : Int) ≤ (((x :: r : Bs).length : Nat) : Int) := by rw [List.length_cons]; omega
      simp only [hx, beq_self_eq_true, Bool.not_true, Bool.false_eq_true, if_false, if_true]
      rw [hx] at h2
      simp only [chk_p h2, chk_p (show (0 : Int) ≤ 1 by omega)]
      refine evt_bind (ret80 r (by omega)) ?_
      exact evt_some _
    · have hx' : (x == c) = false := by simpa using hx
      simp only [hx', hx, Bool.not_false, if_true, if_false]
      exact evt_some _
end Go.Proofs.YtemgbdncidgoiaaDoor
end
section
namespace Go.Proofs.YtemgbdncidgoiaaDoor
open Go.Ev Go
def quoF : Bs → Option (Bs × Bs)
  | [] => none
  | [c] => if c = 34 then some ([], []) else none
  | c :: x :: r => if c = 34 then some ([], x :: r) else if c = 92 then (quoF r).map fun p => (x :: p.1, p.2) else (quoF (x :: r)).map fun p => (c :: p.1, p.2)
theorem quoF_cons (c : UInt8) (r : Bs) : quoF (c :: r) =
    if c = 34 then some ([], r) else if c = 92 then (match r with | [] => none | x :: r' => (quoF r').map fun p => (x :: p.1, p.2)) else (quoF r).map fun p => (c :: p.1, p.2) := by
  cases r with
  | nil =>
    rw [quoF, quoF]
    by_cases h : c = 34
    · simp [h]
    · simp [h]
  | cons x r => rw [quoF]
theorem quoF_le : ∀ (n : Nat) (s t r : Bs), s.length ≤ n → quoF s = some (t, r) → t.length + r.length < s.length
  | _, [], t, r, _, h => by simp [quoF] at h
  | 0, c :: s, t, r, h, _ => by simp at h
  | n + 1, c :: s, t, r, h, hq => by
    rw [quoF_cons] at hq
    simp at h
    split at hq
    · cases hq; simp
    · split at hq
      · cases s with
        | nil => cases hq
        | cons x s =>
          simp at hq h
          obtain ⟨a, hp, rfl⟩ := hq
          have := quoF_le n s a r (by omega) hp
          simp; omega
      · simp at hq
        obtain ⟨a, hp, rfl⟩ := hq
        have := quoF_le n s a r (by omega) hp
        simp; omega
theorem loop112 (s : Bs) (hs : s.length ≤ 1000000) : ∀ (n i : Nat) (out : Bs), s.length - i ≤ n → out.length ≤ i →
    ∃ rest, Evt (fun k n => L112 (callN cfg k) n (ofBytes out) (i : Nat) s) (match quoF (s.drop i) with
      | some (t, r) => (.tup [.str (out ++ t), .bool true], [.cells [.str r]])
      | none => (.tup [.str [], .bool false], [.cells [.str rest]])) := by
  have fin : ∀ (i : Nat) (out : Bs), s.length ≤ i → ∃ rest, Evt (fun k n => L112 (callN cfg k) n (ofBytes out) (i : Nat) s) (match quoF (s.drop i) with
      | some (t, r) => (.tup [.str (out ++ t), .bool true], [.cells [.str r]])
      | none => (.tup [.str [], .bool false], [.cells [.str rest]])) := by
    intro i out h
    rw [List.drop_eq_nil_of_le h]
    refine ⟨s, N112_0 (ofBytes out) (i : Nat) s ?_⟩
    have h1 : ¬ ((i : Int) < (s.length : Int)) := by omega
    simp only [T112_0, h1, decide_false, Bool.false_eq_true, if_false, quoF]
    exact evt_some _
  intro n
  induction n with
  | zero => intro i out h _; exact fin i out (by omega)
  | succ n ih =>
    intro i out h ho
    by_cases hlt : i < s.length
    · have h1 : ((i : Int) < (s.length : Int)) := by omega
      have h2 : (0 : Int) ≤ (i : Int) := by omega
      have hw : IntKind.wrap .i64 ((i : Int) + 1) = ((i + 1 : Nat) : Int) := by rw [wrap64 (by omega) (by omega)]; omega
      have hw2 : IntKind.wrap .i64 (((i + 1 : Nat) : Int) + 1) = ((i + 2 : Nat) : Int) := by rw [wrap64 (by omega) (by omega)]; omega
      have h3 : (0 : Int) ≤ ((i + 1 : Nat) : Int) := by omega
      have h4 : ((i + 1 : Nat) : Int) ≤ (s.length : Int) := by omega
      have e34 : (((s[i].toNat : Nat) : Int) == (34 : Int)) = (s[i] == 34) := intB_lit s[i] 34 (by omega)
      have e92 : (((s[i].toNat : Nat) : Int) == (92 : Int)) = (s[i] == 92) := intB_lit s[i] 92 (by omega)
      rw [drop_at hlt, quoF_cons]
      by_cases c34 : s[i] = 34
      · refine ⟨[], N112_0 (ofBytes out) (i : Nat) s ?_⟩
        simp only [T112_0, h1, decide_true, if_true, chk_p h2, chk_t, Int.toNat_natCast, getD_at hlt, e34, c34, beq_self_eq_true, hw, chk_p h3, chk_p h4, bytesOf_ofBytes, List.append_nil]
        exact evt_some _
      · have b34 : (s[i] == 34) = false := by simpa using c34
        by_cases c92 : s[i] = 92
        · by_cases hlt2 : i + 1 < s.length
          · have h5 : ((i + 1 : Nat) : Int) < (s.length : Int) := by omega
            have hap : appOk (ofBytes out) [V.int IntKind.u8 ((s[i+1].toNat : Nat) : Int)] 2 = true := app_ok (by simp [ofBytes_length]; omega)
            obtain ⟨rest, g⟩ := ih (i + 2) (out ++ [s[i+1]]) (by omega) (by simp; omega)
            refine ⟨rest, N112_0 (ofBytes out) (i : Nat) s ?_⟩
            have g34 : ¬ ((92 : UInt8) = 34) := by decide
            rw [if_neg (by rw [c92]; exact g34), if_pos c92, drop_at hlt2]
            simp only [T112_0, h1, decide_true, if_true, chk_p h2, chk_t, Int.toNat_natCast, getD_at hlt, e34, b34, Bool.false_eq_true, if_false, e92, c92, beq_self_eq_true, hw, h5, chk_p h3, getD_at hlt2, chk_b hap, hw2, ofBytes_snoc]
            cases hq : quoF (s.drop (i + 2)) with
            | none => rw [hq] at g; simpa [hq] using g
            | some p => rw [hq] at g; simpa [hq] using g
          · have h5 : ¬ (((i + 1 : Nat) : Int) < (s.length : Int)) := by omega
            obtain ⟨rest, g⟩ := fin (i + 2) out (by omega)
            refine ⟨rest, N112_0 (ofBytes out) (i : Nat) s ?_⟩
            have g34 : ¬ ((92 : UInt8) = 34) := by decide
            rw [if_neg (by rw [c92]; exact g34), if_pos c92, List.drop_eq_nil_of_le (by omega : s.length ≤ i + 1)]
            rw [List.drop_eq_nil_of_le (by omega : s.length ≤ i + 2)] at g
            simp only [T112_0, h1, decide_true, decide_false, if_true, chk_p h2, chk_t, Int.toNat_natCast, getD_at hlt, e34, b34, Bool.false_eq_true, if_false, e92, c92, beq_self_eq_true, hw, h5, hw2]
            exact g
        · have b92 : (s[i] == 92) = false := by simpa using c92
          have hap : appOk (ofBytes out) [V.int IntKind.u8 ((s[i].toNat : Nat) : Int)] 2 = true := app_ok (by simp [ofBytes_length]; omega)
          obtain ⟨rest, g⟩ := ih (i + 1) (out ++ [s[i]]) (by omega) (by simp; omega)
          refine ⟨rest, N112_0 (ofBytes out) (i : Nat) s ?_⟩
          rw [if_neg c34, if_neg c92]
          simp only [T112_0, h1, decide_true, if_true, chk_p h2, chk_t, Int.toNat_natCast, getD_at hlt, e34, b34, Bool.false_eq_true, if_false, e92, b92, hw, chk_b hap, ofBytes_snoc]
          cases hq : quoF (s.drop (i + 1)) with
          | none => rw [hq] at g; simpa [hq] using g
          | some p => rw [hq] at g; simpa [hq] using g
    · exact fin i out (by omega)
theorem ret112 (s : Bs) (hs : s.length ≤ 1000000) : ∃ rest, Ret 112 [.agg [.ref 0 0]] [.cells [.str s]] (match quoF (s.drop 1) with
      | some (t, r) => (.tup [.str t, .bool true], [.cells [.str r]])
      | none => (.tup [.str [], .bool false], [.cells [.str rest]])) := by
  obtain ⟨rest, g⟩ := loop112 s hs s.length 1 [] (by omega) (by simp)
  refine ⟨rest, M112 s ?_⟩
  simp only [T112]
  exact g
def valF (s : Bs) : Option (Bs × Bs) :=
  if s.head? = some 34 then quoF (s.drop 1) else if (tokF s).1 = [] then none else some (tokF s)
theorem tokF_le (s : Bs) : (tokF s).1.length + (tokF s).2.length = s.length := by
  have := List.takeWhile_append_dropWhile (p := tokB) (l := s)
  have h := congrArg List.length this
  rw [List.length_append] at h
  exact h
theorem valF_le {s t r : Bs} (h : valF s = some (t, r)) : t.length + r.length ≤ s.length := by
  unfold valF at h
  split at h
  · have := quoF_le _ _ t r (Nat.le_refl _) h
    simp at this; omega
  · split at h
    · cases h
    · have := tokF_le s
      have e : tokF s = (t, r) := by injection h
      rw [e] at this; exact Nat.le_of_eq this
theorem ret102 (s : Bs) (hs : s.length ≤ 1000000) : ∃ rest, Ret 102 [.agg [.ref 0 0]] [.cells [.str s]] (match valF s with
      | some (t, r) => (.tup [.str t, .bool true], [.cells [.str r]])
      | none => (.tup [.str [], .bool false], [.cells [.str rest]])) := by
  have e34 : ((((s.getD 0 0).toNat : Nat) : Int) == (34 : Int)) = (s.head? == some 34) := by
    rw [show (34 : Int) = ((34 : Nat) : Int) from rfl, intB_lit _ 34 (by omega)]
    cases s with
    | nil => decide
    | cons c r => simp
  by_cases h : s.head? = some 34
  · obtain ⟨rest, g⟩ := ret112 s hs
    refine ⟨rest, M102 s ?_⟩
    simp only [T102]
    refine evt_bind (ret99 s 0) ?_
    simp only [V.getI, e34, h, beq_self_eq_true, if_true]
    refine evt_bind g ?_
    unfold valF
    rw [if_pos h]
    cases quoF (s.drop 1) with
    | none => exact evt_some _
    | some p => exact evt_some _
  · refine ⟨(tokF s).2, M102 s ?_⟩
    have hb : (s.head? == some 34) = false := by simpa using h
    simp only [T102]
    refine evt_bind (ret99 s 0) ?_
    simp only [V.getI, e34, hb, Bool.false_eq_true, if_false]
    refine evt_bind (ret81 s hs) ?_
    unfold valF
    rw [if_neg h]
    simp only [V.getS, List.headD_cons, Ob.getC, sEq]
    by_cases ht : (tokF s).1 = []
    · rw [if_pos ht, ht]
      exact evt_some _
    · rw [if_neg ht]
      have : ((tokF s).1 == []) = false := by simpa using ht
      rw [this]
      exact evt_some _
abbrev Ps := List (Bs × Bs)
def pV (p : Bs × Bs) : V := .agg [.str p.1, .str p.2]
def pairsF (s : Bs) : Ps :=
  match h1 : byteF 59 s with
  | none => []
  | some s1 =>
    if (tokF s1).1 = [] then []
    else match h2 : byteF 61 (tokF s1).2 with
      | none => []
      | some s3 => match h3 : valF s3 with
        | none => []
        | some (v, s4) => ((tokF s1).1.map low8, v) :: pairsF s4
termination_by s.length
decreasing_by
  have g1 := byteF_le h1
  have g2 := tokF_le s1
  have g3 := byteF_le h2
  have g4 := valF_le h3
  omega
theorem pairsF_eq (s : Bs) : pairsF s = match byteF 59 s with
    | none => []
    | some s1 => if (tokF s1).1 = [] then [] else match byteF 61 (tokF s1).2 with
      | none => []
      | some s3 => match valF s3 with
        | none => []
        | some (v, s4) => ((tokF s1).1.map low8, v) :: pairsF s4 := by
  rw [pairsF]
  split
  · rename_i h1; simp only [h1]
  · rename_i s1 h1
    simp only [h1]
    split
    · rfl
    · split
      · rename_i h2; simp only [h2]
      · rename_i s3 h2
        simp only [h2]
        split
        · rename_i h3; simp only [h3]
        · rename_i v s4 h3; simp only [h3]
theorem ret83_aux : ∀ (n : Nat) (s : Bs) (l : Ps), s.length ≤ n → s.length ≤ 1000000 → l.length + s.length ≤ 1000000 →
    ∃ rest, Evt (fun k n => L83 (callN cfg k) n (l.map pV) s) (.lst 116 false ((l ++ pairsF s).map pV), [.cells [.str rest]]) := by
  intro n
  induction n with
  | zero =>
    intro s l h hs hl
    have : s = [] := List.eq_nil_of_length_eq_zero (by omega)
    subst this
    have hb : byteF 59 [] = none := by simp [byteF, skipF_nil]
    refine ⟨skipF [], N83_0 (l.map pV) [] ?_⟩
    simp only [T83_0]
    refine evt_bind (ret82 [] hs 59 (by decide)) ?_
    rw [pairsF_eq]
    simp only [hb, byteR, Option.isSome_none, V.getB, Bool.false_eq_true, if_false, List.append_nil, List.headD_cons, Ob.getC, V.getS]
    exact evt_some _
  | succ n ih =>
    intro s l h hs hl
    rw [pairsF_eq]
    cases h1 : byteF 59 s with
    | none =>
      refine ⟨skipF s, N83_0 (l.map pV) s ?_⟩
      simp only [T83_0]
      refine evt_bind (ret82 s hs 59 (by decide)) ?_
      simp only [h1, byteR, Option.isSome_none, V.getB, Bool.false_eq_true, if_false, List.append_nil, List.headD_cons, Ob.getC, V.getS]
      exact evt_some _
    | some s1 =>
      have g1 := byteF_le h1
      have g2 := tokF_le s1
      have hsl : s1.length ≤ 1000000 := by omega
      have hln : ((tokF s1).1.map low8 = []) ↔ (tokF s1).1 = [] := List.map_eq_nil_iff
      have start : ∀ {r : V × List Ob}, Evt (fun k n =>
          if sEq ((tokF s1).1.map low8) [] = false then
            Option.bind (callN cfg k 82 [(V.agg [(V.ref 0 0)]), (V.int IntKind.u8 (61 : Int))] [(Ob.cells [(V.str (tokF s1).2)])]) fun p3 =>
            if (!(V.getB p3.1)) = true then
              some ((V.lst 116 false (l.map pV)), [(Ob.cells [(V.str (V.getS (List.headD (Ob.getC (List.headD p3.2 Ob.dead)) V.bot)))])])
            else
              Option.bind (callN cfg k 102 [(V.agg [(V.ref 0 0)])] [(Ob.cells [(V.str (V.getS (List.headD (Ob.getC (List.headD p3.2 Ob.dead)) V.bot)))])]) fun p4 =>
              if (!(V.getB (List.headD (List.tail (V.getT p4.1)) V.bot))) = true then
                some ((V.lst 116 false (l.map pV)), [(Ob.cells [(V.str (V.getS (List.headD (Ob.getC (List.headD p4.2 Ob.dead)) V.bot)))])])
              else
                chk (appOk (l.map pV) [(V.agg [(V.str ((tokF s1).1.map low8)), (V.str (V.getS (List.headD (V.getT p4.1) V.bot)))])] 33) (L83 (callN cfg k) n ((l.map pV ++ [(V.agg [(V.str ((tokF s1).1.map low8)), (V.str (V.getS (List.headD (V.getT p4.1) V.bot)))])])) ((V.getS (List.headD (Ob.getC (List.headD p4.2 Ob.dead)) V.bot))))
          else
            some ((V.lst 116 false (l.map pV)), [(Ob.cells [(V.str (tokF s1).2)])])) r → Evt (fun k n => L83 (callN cfg k) n (l.map pV) s) r := by
        intro r hr
        refine N83_0 (l.map pV) s ?_
        simp only [T83_0]
        refine evt_bind (ret82 s hs 59 (by decide)) ?_
        simp only [h1, byteR, Option.isSome_some, V.getB, if_true, List.headD_cons, Ob.getC, V.getS]
        refine evt_bind (ret81 s1 hsl) ?_
        simp only [V.getS, List.headD_cons, Ob.getC]
        refine evt_bind (ret65 _ (by omega)) ?_
        exact hr
      by_cases ht : (tokF s1).1 = []
      · refine ⟨(tokF s1).2, start ?_⟩
        have hse : sEq ((tokF s1).1.map low8) [] = true := by simp [sEq, ht]
        simp only [ht, if_true, List.append_nil]
        rw [ht] at hse
        simp only [hse, Bool.true_eq_false, if_false]
        exact evt_some _
      · have hse : sEq ((tokF s1).1.map low8) [] = false := by simp [sEq, ht]
        have h19 := ret82 (tokF s1).2 (by omega) 61 (by decide)
        simp only [ht, if_false]
        cases h2 : byteF 61 (tokF s1).2 with
        | none =>
          refine ⟨skipF (tokF s1).2, start ?_⟩
          simp only [hse, if_true]
          refine evt_bind h19 ?_
          simp only [h2, byteR, Option.isSome_none, V.getB, Bool.not_false, if_true, List.append_nil, List.headD_cons, Ob.getC, V.getS]
          exact evt_some _
        | some s3 =>
          have g3 := byteF_le h2
          obtain ⟨rest, h35⟩ := ret102 s3 (by omega)
          cases h3 : valF s3 with
          | none =>
            refine ⟨rest, start ?_⟩
            simp only [hse, if_true]
            refine evt_bind h19 ?_
            simp only [h2, byteR, Option.isSome_some, V.getB, Bool.not_true, Bool.false_eq_true, if_false, List.headD_cons, Ob.getC, V.getS]
            refine evt_bind h35 ?_
            simp only [h3, V.getT, List.tail_cons, List.headD_cons, V.getB, Bool.not_false, if_true, List.append_nil, Ob.getC, V.getS]
            exact evt_some _
          | some p =>
            obtain ⟨v, s4⟩ := p
            have g4 := valF_le h3
            obtain ⟨rest', hrec⟩ := ih s4 (l ++ [((tokF s1).1.map low8, v)]) (by omega) (by omega) (by simp; omega)
            refine ⟨rest', start ?_⟩
            simp only [hse, if_true]
            refine evt_bind h19 ?_
            simp only [h2, byteR, Option.isSome_some, V.getB, Bool.not_true, Bool.false_eq_true, if_false, List.headD_cons, Ob.getC, V.getS]
            refine evt_bind h35 ?_
            have hap : appOk (l.map pV) [V.agg [V.str ((tokF s1).1.map low8), V.str v]] 33 = true := app_ok (by simp; omega)
            simp only [h3, V.getT, List.tail_cons, List.headD_cons, V.getB, Bool.not_true, Bool.false_eq_true, if_false, Ob.getC, V.getS, chk_b hap]
            have e : (l ++ [((tokF s1).1.map low8, v)]).map pV = l.map pV ++ [V.agg [V.str ((tokF s1).1.map low8), V.str v]] := by simp [pV]
            rw [e] at hrec
            simpa using hrec
theorem ret83 (s : Bs) (hs : s.length ≤ 1000000) : ∃ rest, Ret 83 [.agg [.ref 0 0]] [.cells [.str s]] (.lst 116 false ((pairsF s).map pV), [.cells [.str rest]]) := by
  obtain ⟨rest, g⟩ := ret83_aux s.length s [] (Nat.le_refl _) hs (by simpa using hs)
  refine ⟨rest, M83 s ?_⟩
  simp only [T83]
  exact g
end Go.Proofs.YtemgbdncidgoiaaDoor
end
section
namespace Go.Proofs.YtemgbdncidgoiaaDoor
open Go.Ev Go
def findF : Ps → Bs → Option Bs
  | [], _ => none
  | p :: r, name => if p.1 = name then some p.2 else findF r name
theorem getD_pV {l : Ps} {i : Nat} (h : i < l.length) (pv : Bs × Bs → V) : (l.map pv).getD i .bot = pv l[i] := by simp [List.getD, h]
theorem loop104 (name : Bs) (l : Ps) (hl : l.length ≤ 1000000) : ∀ (n i : Nat), l.length - i ≤ n →
    Evt (fun k n => L104 (callN cfg k) n name (l.map pV) (l.length : Nat) (i : Nat)) (.tup [.str ((findF (l.drop i) name).getD []), .bool (findF (l.drop i) name).isSome], []) := by
  have fin : ∀ i : Nat, l.length ≤ i → Evt (fun k n => L104 (callN cfg k) n name (l.map pV) (l.length : Nat) (i : Nat)) (.tup [.str ((findF (l.drop i) name).getD []), .bool (findF (l.drop i) name).isSome], []) := by
    intro i h
    refine N104_0 name (l.map pV) (l.length : Nat) (i : Nat) ?_
    have h1 : ¬ ((i : Int) < (l.length : Int)) := by omega
    rw [List.drop_eq_nil_of_le h]
    simp only [T104_0, h1, decide_false, Bool.false_eq_true, if_false, findF]
    exact evt_some _
  intro n
  induction n with
  | zero => intro i h; exact fin i (by omega)
  | succ n ih =>
    intro i h
    by_cases hlt : i < l.length
    · refine N104_0 name (l.map pV) (l.length : Nat) (i : Nat) ?_
      have h1 : ((i : Int) < (l.length : Int)) := by omega
      have h2 : (0 : Int) ≤ (i : Int) := by omega
      have hw : IntKind.wrap .i64 ((i : Int) + 1) = ((i + 1 : Nat) : Int) := by rw [wrap64 (by omega) (by omega)]; omega
      have hd : l.drop i = l[i] :: l.drop (i + 1) := List.drop_eq_getElem_cons hlt
      rw [hd, findF]
      simp only [T104_0, h1, decide_true, if_true, chk_p h2, List.length_map, chk_t, Int.toNat_natCast, getD_pV hlt, pV, V.cells, List.headD_cons, List.tail_cons, V.getS, sEq, hw]
      by_cases hn : l[i].1 = name
      · simp only [hn, beq_self_eq_true, if_true]
        exact evt_some _
      · have : (l[i].1 == name) = false := by simpa using hn
        simp only [this, Bool.false_eq_true, if_false, hn]
        exact ih (i + 1) (by omega)
    · exact fin i (by omega)
theorem ret104 (l : Ps) (hl : l.length ≤ 1000000) (name : Bs) : Ret 104 [.lst 116 false (l.map pV), .str name] [] (.tup [.str ((findF l name).getD []), .bool (findF l name).isSome], []) := by
  refine M104 (l.map pV) name ?_
  simp only [T104, List.length_map]
  exact loop104 name l hl l.length 0 (by omega)
theorem low8_int (c : UInt8) : (((low8 c).toNat : Nat) : Int) = lowI (c.toNat : Nat) := by
  have h := lowI_range (c := (c.toNat : Nat)) ⟨by omega, by have := c.toNat_lt; omega⟩
  unfold low8
  simp only [UInt8.toNat_ofNat']
  omega
theorem ret90 (c : UInt8) : Ret 90 [.int .u8 (c.toNat : Nat)] [] (.int .u8 ((low8 c).toNat : Nat), []) := by
  refine M90 (c.toNat : Nat) ?_
  rw [low8_int]
  have hc := c.toNat_lt
  unfold lowI
  simp only [T90]
  by_cases h1 : (65 : Int) ≤ (c.toNat : Int)
  · by_cases h2 : (c.toNat : Int) ≤ 90
    · have hw : IntKind.wrap .u8 (IntKind.wrap .u8 ((c.toNat : Int) - 65) + 97) = (c.toNat : Int) + 32 := by
        rw [wrap8 (by omega) (by omega : (c.toNat : Int) - 65 < 256), wrap8 (by omega) (by omega)]; omega
      simp only [ge_iff_le, h1, h2, decide_true, if_true, bind_s, and_self, hw]
      exact evt_some _
    · simp only [ge_iff_le, h1, h2, decide_true, decide_false, if_true, bind_s, and_false, if_false, Bool.false_eq_true]
      exact evt_some _
  · simp only [ge_iff_le, h1, decide_false, bind_s, false_and, if_false, Bool.false_eq_true]
    exact evt_some _
def hexN (c : UInt8) : Option Nat :=
  if 48 ≤ (low8 c).toNat ∧ (low8 c).toNat ≤ 57 then some ((low8 c).toNat - 48) else if 97 ≤ (low8 c).toNat ∧ (low8 c).toNat ≤ 102 then some ((low8 c).toNat - 87) else none
theorem hexN_lt {c : UInt8} {n : Nat} (h : hexN c = some n) : n < 16 := by
  unfold hexN at h
  split at h
  · cases h; omega
  · split at h
    · cases h; omega
    · cases h
theorem ret114 (c : UInt8) : Ret 114 [.int .u8 (c.toNat : Nat)] [] (.tup [.int .u8 (((hexN c).getD 0 : Nat) : Int), .bool (hexN c).isSome], []) := by
  refine M114 (c.toNat : Nat) ?_
  simp only [T114]
  refine evt_bind (ret90 c) ?_
  unfold hexN
  generalize hd : (low8 c).toNat = d
  show Evt (fun _ _ => Option.bind (if decide ((d : Int) ≥ 48) = true then some (decide ((d : Int) ≤ 57)) else some false) fun b1 => if b1 = true then some (V.tup [V.int .u8 (IntKind.wrap .u8 ((d : Int) - 48)), V.bool true], []) else
    Option.bind (if decide ((d : Int) ≥ 97) = true then some (decide ((d : Int) ≤ 102)) else some false) fun b2 => if b2 = true then some (V.tup [V.int .u8 (IntKind.wrap .u8 (IntKind.wrap .u8 ((d : Int) - 97) + 10)), V.bool true], []) else
      some (V.tup [V.int .u8 0, V.bool false], [])) _
  simp only [ge_iff_le]
  by_cases h1 : 48 ≤ d ∧ d ≤ 57
  · have g1 : (48 : Int) ≤ (d : Int) := by omega
    have g2 : (d : Int) ≤ 57 := by omega
    have hw : IntKind.wrap .u8 ((d : Int) - 48) = ((d - 48 : Nat) : Int) := by rw [wrap8 (by omega) (by omega)]; omega
    simp only [g1, g2, decide_true, if_true, bind_s, hw, h1, and_self, Option.getD_some, Option.isSome_some]
    exact evt_some _
  · rw [if_neg h1]
    have hb : (if decide ((48 : Int) ≤ (d : Int)) = true then some (decide ((d : Int) ≤ 57)) else some false) = some false := by
      by_cases a : 48 ≤ d
      · have b : ¬ (d : Int) ≤ 57 := by omega
        simp [b]
      · have b : ¬ (48 : Int) ≤ (d : Int) := by omega
        simp [b]
    simp only [hb, bind_s, Bool.false_eq_true, if_false]
    by_cases h2 : 97 ≤ d ∧ d ≤ 102
    · have g1 : (97 : Int) ≤ (d : Int) := by omega
      have g2 : (d : Int) ≤ 102 := by omega
      have hw : IntKind.wrap .u8 (IntKind.wrap .u8 ((d : Int) - 97) + 10) = ((d - 87 : Nat) : Int) := by rw [wrap8 (by omega) (by omega : (d : Int) - 97 < 256), wrap8 (by omega) (by omega)]; omega
      simp only [g1, g2, decide_true, if_true, bind_s, hw, h2, and_self, Option.getD_some, Option.isSome_some]
      exact evt_some _
    · rw [if_neg h2]
      have hb : (if decide ((97 : Int) ≤ (d : Int)) = true then some (decide ((d : Int) ≤ 102)) else some false) = some false := by
        by_cases a : 97 ≤ d
        · have b : ¬ (d : Int) ≤ 102 := by omega
          simp [b]
        · have b : ¬ (97 : Int) ≤ (d : Int) := by omega
          simp [b]
      simp only [hb, bind_s, Bool.false_eq_true, if_false]
      exact evt_some _
def openF : Bs → Bs
  | [] => []
  | [c] => [c]
  | [c, a] => [c, a]
  | c :: a :: b :: r => if c = 37 then (match hexN a, hexN b with
      | some x, some y => UInt8.ofNat (16 * x + y) :: openF r
      | _, _ => c :: openF (a :: b :: r)) else c :: openF (a :: b :: r)
theorem openF_plain (c : UInt8) (r : Bs) (h : c ≠ 37 ∨ r.length < 2) : openF (c :: r) = c :: openF r := by
  match r, h with
  | [], _ => rfl
  | [a], _ => rfl
  | a :: b :: r, h =>
    have : c ≠ 37 := by rcases h with h | h; exact h; simp at h; omega
    rw [openF, if_neg this]
theorem openF_length : ∀ (n : Nat) (s : Bs), s.length ≤ n → (openF s).length ≤ s.length
  | _, [], _ => by simp [openF]
  | _, [c], _ => by simp [openF]
  | _, [c, a], _ => by simp [openF]
  | 0, c :: a :: b :: r, h => by simp at h
  | n + 1, c :: a :: b :: r, h => by
    simp at h
    have h1 := openF_length n r (by omega)
    have h2 := openF_length n (a :: b :: r) (by simp; omega)
    simp at h2
    rw [openF]
    split
    · split <;> simp <;> omega
    · simp; omega
theorem openF_le (s : Bs) : (openF s).length ≤ s.length := openF_length _ s (Nat.le_refl _)
theorem or16 : ∀ x y : Fin 16, bits .or .u8 (IntKind.wrap .u8 (((x.val : Nat) : Int) * 2 ^ min (Int.toNat 4) (IntKind.bits .u8))) ((y.val : Nat) : Int) = ((((UInt8.ofNat (16 * x.val + y.val)).toNat : Nat)) : Int) := by decide +kernel
theorem loop105 (s : Bs) (hs : s.length ≤ 1000000) : ∀ (n i : Nat) (out : Bs), s.length - i ≤ n → out.length ≤ i → i ≤ s.length →
    Evt (fun k n => L105 (callN cfg k) n s (ofBytes out) (i : Nat)) (.str (out ++ openF (s.drop i)), []) := by
  have fin : ∀ (i : Nat) (out : Bs), s.length ≤ i → Evt (fun k n => L105 (callN cfg k) n s (ofBytes out) (i : Nat)) (.str (out ++ openF (s.drop i)), []) := by
    intro i out h
    refine N105_0 s (ofBytes out) (i : Nat) ?_
    have h1 : ¬ ((i : Int) < (s.length : Int)) := by omega
    rw [List.drop_eq_nil_of_le h]
    simp only [T105_0, h1, decide_false, Bool.false_eq_true, if_false, bytesOf_ofBytes, openF, List.append_nil]
    exact evt_some _
  intro n
  induction n with
  | zero => intro i out h _ _; exact fin i out (by omega)
  | succ n ih =>
    intro i out h ho hi
    by_cases hlt : i < s.length
    · refine N105_0 s (ofBytes out) (i : Nat) ?_
      have h1 : ((i : Int) < (s.length : Int)) := by omega
      have h2 : (0 : Int) ≤ (i : Int) := by omega
      have hw : IntKind.wrap .i64 ((i : Int) + 1) = ((i + 1 : Nat) : Int) := by rw [wrap64 (by omega) (by omega)]; omega
      have hw2 : IntKind.wrap .i64 ((i : Int) + 2) = ((i + 2 : Nat) : Int) := by rw [wrap64 (by omega) (by omega)]; omega
      have hw3 : IntKind.wrap .i64 (((i + 2 : Nat) : Int) + 1) = ((i + 3 : Nat) : Int) := by rw [wrap64 (by omega) (by omega)]; omega
      have e37 : (((s[i].toNat : Nat) : Int) == (37 : Int)) = (s[i] == 37) := intB_lit s[i] 37 (by omega)
      have hap : ∀ c : Int, appOk (ofBytes out) [V.int IntKind.u8 c] 2 = true := fun c => app_ok (by simp [ofBytes_length]; omega)
      have plain : openF (s.drop i) = s[i] :: openF (s.drop (i + 1)) → Evt (fun k n => chk (decide (0 ≤ (i : Int))) (chk (decide ((i : Int) < (s.length : Int))) (chk (appOk (ofBytes out) [V.int IntKind.u8 ((UInt8.toNat (List.getD s (Int.toNat (i : Int)) 0) : Nat) : Int)] 2) (L105 (callN cfg k) n s (ofBytes out ++ [V.int IntKind.u8 ((UInt8.toNat (List.getD s (Int.toNat (i : Int)) 0) : Nat) : Int)]) (IntKind.wrap .i64 ((i : Int) + 1)))))) (.str (out ++ openF (s.drop i)), []) := by
        intro e
        have := ih (i + 1) (out ++ [s[i]]) (by omega) (by simp; omega) (by omega)
        simp only [chk_p h2, chk_p h1, chk_b (hap _), Int.toNat_natCast, getD_at hlt, ofBytes_snoc, hw]
        rw [e]
        simpa using this
      by_cases c37 : s[i] = 37
      · have b37 : (s[i] == 37) = true := by simpa using c37
        by_cases h3 : i + 2 < s.length
        · have g3 : ((i + 2 : Nat) : Int) < (s.length : Int) := by omega
          have g4 : ((i + 1 : Nat) : Int) < (s.length : Int) := by omega
          have g5 : (0 : Int) ≤ ((i + 1 : Nat) : Int) := by omega
          have g6 : (0 : Int) ≤ ((i + 2 : Nat) : Int) := by omega
          have hlt1 : i + 1 < s.length := by omega
          have hd : s.drop i = s[i] :: s[i+1] :: s[i+2] :: s.drop (i + 3) := by rw [drop_at hlt, drop_at hlt1, drop_at h3]
          simp only [T105_0, h1, decide_true, if_true, chk_p h2, chk_t, bind_s, Int.toNat_natCast, getD_at hlt, e37, b37, hw2, g3, hw, chk_p g5, chk_p g4, getD_at hlt1]
          refine evt_bind (ret114 s[i+1]) ?_
          simp only [chk_p g6, chk_p g3, getD_at h3]
          refine evt_bind (ret114 s[i+2]) ?_
          simp only [V.getT, V.getB, V.getI, List.headD_cons, List.tail_cons]
          cases ha : hexN s[i+1] with
          | none =>
            simp only [Option.isSome_none, Bool.false_eq_true, if_false, bind_s]
            have e : openF (s.drop i) = s[i] :: openF (s.drop (i + 1)) := by
              rw [hd, openF, if_pos c37, ha, drop_at hlt1, drop_at h3]
            have := plain e
            simp only [Int.toNat_natCast, getD_at hlt, hw, chk_p h2, chk_p h1] at this
            exact this
          | some x =>
            cases hb : hexN s[i+2] with
            | none =>
              simp only [Option.isSome_none, Option.isSome_some, Bool.false_eq_true, if_false, if_true, bind_s]
              have e : openF (s.drop i) = s[i] :: openF (s.drop (i + 1)) := by
                rw [hd, openF, if_pos c37, ha, hb, drop_at hlt1, drop_at h3]
              have := plain e
              simp only [Int.toNat_natCast, getD_at hlt, hw, chk_p h2, chk_p h1] at this
              exact this
            | some y =>
              have ho16 := or16 ⟨x, hexN_lt ha⟩ ⟨y, hexN_lt hb⟩
              simp only [Option.isSome_some, if_true, bind_s, Option.getD_some, ho16, chk_p (show (0 : Int) ≤ 4 by omega), chk_b (hap _), ofBytes_snoc, hw3]
              have := ih (i + 3) (out ++ [UInt8.ofNat (16 * x + y)]) (by omega) (by simp; omega) (by omega)
              rw [hd, openF, if_pos c37, ha, hb]
              simpa using this
        · have g3 : ¬ (((i + 2 : Nat) : Int) < (s.length : Int)) := by omega
          have e : openF (s.drop i) = s[i] :: openF (s.drop (i + 1)) := by
            rw [drop_at hlt]; exact openF_plain _ _ (.inr (by simp; omega))
          have := plain e
          simp only [Int.toNat_natCast, getD_at hlt, hw, chk_p h2, chk_p h1] at this
          simp only [T105_0, h1, decide_true, decide_false, if_true, chk_p h2, chk_t, bind_s, Int.toNat_natCast, getD_at hlt, e37, b37, hw2, g3, Bool.false_eq_true, if_false, hw]
          exact this
      · have b37 : (s[i] == 37) = false := by simpa using c37
        have e : openF (s.drop i) = s[i] :: openF (s.drop (i + 1)) := by
          rw [drop_at hlt]; exact openF_plain _ _ (.inl c37)
        have := plain e
        simp only [Int.toNat_natCast, getD_at hlt, hw, chk_p h2, chk_p h1] at this
        simp only [T105_0, h1, decide_true, if_true, chk_p h2, chk_t, bind_s, Int.toNat_natCast, getD_at hlt, e37, b37, Bool.false_eq_true, if_false, hw]
        exact this
    · exact fin i out (by omega)
theorem ret105 (s : Bs) (hs : s.length ≤ 1000000) : Ret 105 [.str s] [] (.str (openF s), []) := by
  refine M105 s ?_
  simp only [T105]
  exact loop105 s hs s.length 0 [] (by omega) (by simp) (by omega)
end Go.Proofs.YtemgbdncidgoiaaDoor
end
section
namespace Go.Proofs.YtemgbdncidgoiaaDoor
open Go.Ev Go
def aroundF (b : UInt8) : Bs → Option (Bs × Bs)
  | [] => none
  | c :: r => if c = b then some ([], r) else (aroundF b r).map fun p => (c :: p.1, p.2)
theorem around_eq {b : UInt8} : ∀ {s t r : Bs}, aroundF b s = some (t, r) → s = t ++ b :: r
  | [], _, _, h => by simp [aroundF] at h
  | c :: s, t, r, h => by
    unfold aroundF at h
    split at h
    · rename_i e; cases h; simp [e]
    · simp at h
      obtain ⟨a, ha, rfl⟩ := h
      rw [around_eq ha]; rfl
theorem index_around (b : UInt8) : ∀ s : Bs, Lib.indexByte s b = match aroundF b s with | some p => (p.1.length : Int) | none => -1
  | [] => rfl
  | c :: s => by
    unfold Lib.indexByte aroundF
    rw [index_around b s]
    by_cases h : c = b
    · simp [h]
    · have h' : (c == b) = false := by simpa using h
      simp only [h', Bool.false_eq_true, if_false, h]
      cases aroundF b s with
      | none => rfl
      | some p =>
        have : ((p.1.length : Int) == -1) = false := by simp
        simp [this]
def baseF (s : Bs) : Bs := match aroundF 42 s with | some p => p.1 | none => s
theorem baseF_le (s : Bs) : (baseF s).length ≤ s.length := by
  unfold baseF
  cases h : aroundF 42 s with
  | none => simp
  | some p => have := congrArg List.length (around_eq h); simp at this ⊢; omega
theorem ret113 (s : Bs) (b : UInt8) : Ret 113 [.str s, .str [b]] [] (.int .i64 (Lib.indexByte s b), []) := ret_hand (h := idxF) rfl rfl
theorem ret103 (s : Bs) (hs : s.length ≤ 1000000) : ∃ r b, Ret 103 [.str s, .str [42]] [] (.tup [.str (baseF s), .str r, .bool b], []) := by
  unfold baseF
  cases h : aroundF 42 s with
  | none =>
    refine ⟨[], false, M103 s [42] ?_⟩
    simp only [T103]
    refine evt_bind (ret113 s 42) ?_
    rw [index_around, h]
    simp only [V.getI, show ¬ ((-1 : Int) ≥ 0) by omega, decide_false, Bool.false_eq_true, if_false]
    exact evt_some _
  | some p =>
    have hl := congrArg List.length (around_eq h)
    simp at hl
    have hw : IntKind.wrap .i64 ((p.1.length : Int) + ((([42] : Bs).length : Nat) : Int)) = ((p.1.length + 1 : Nat) : Int) := by
      rw [show ((([42] : Bs).length : Nat) : Int) = 1 from rfl, wrap64 (by omega) (by omega)]; omega
    have g0 : (p.1.length : Int) ≥ 0 := by omega
    have g1 : (p.1.length : Int) ≤ (s.length : Int) := by omega
    have g2 : ((p.1.length + 1 : Nat) : Int) ≤ (s.length : Int) := by omega
    have g3 : (0 : Int) ≤ ((p.1.length + 1 : Nat) : Int) := by omega
    refine ⟨s.drop (p.1.length + 1), true, M103 s [42] ?_⟩
    simp only [T103]
    obtain ⟨x, hx⟩ : ∃ x : Int, x = (p.1.length : Int) := ⟨_, rfl⟩
    have h51 : Ret 113 [.str s, .str [42]] [] (.int .i64 x, []) := by
      have := ret113 s 42
      rw [index_around, h] at this
      rw [hx]; exact this
    refine evt_bind h51 ?_
    have e1 : (s.take p.1.length) = p.1 := by
      have := around_eq h
      conv => lhs; rw [this]
      simp
    rw [← hx] at hw g0 g1
    show Evt (fun _ _ => if decide (x ≥ 0) = true then
        chk (decide (0 ≤ x)) (chk (decide (x ≤ ((List.length s : Nat) : Int))) (chk (decide ((0 : Int) ≤ 0)) (chk (decide (0 ≤ x)) (chk (decide (0 ≤ (IntKind.wrap IntKind.i64 (x + ((List.length ([42] : Bs) : Nat) : Int))))) (chk (decide ((IntKind.wrap IntKind.i64 (x + ((List.length ([42] : Bs) : Nat) : Int))) ≤ ((List.length s : Nat) : Int))) (some ((V.tup [(V.str (List.drop (Int.toNat (0 : Int)) (List.take (Int.toNat x) s))), (V.str (List.drop (Int.toNat (IntKind.wrap IntKind.i64 (x + ((List.length ([42] : Bs) : Nat) : Int)))) s)), (V.bool true)]), [])))))))
      else some ((V.tup [(V.str s), (V.str []), (V.bool false)]), [])) _
    rw [hw]
    have hxn : x.toNat = p.1.length := by omega
    simp only [g0, decide_true, if_true, ge_iff_le.1 g0, chk_t, chk_p g1, chk_p g2, chk_p g3, chk_p (Int.le_refl 0), hxn, Int.toNat_natCast, Int.toNat_zero, List.drop_zero, e1]
    exact evt_some _
theorem ret84 (s : Bs) (hs : s.length ≤ 1000000) : ∃ r b, Ret 84 [.str s, .str [42]] [] (.tup [.str (baseF s), .str r, .bool b], []) := by
  obtain ⟨r, b, h⟩ := ret103 s hs
  refine ⟨r, b, M84 s [42] ?_⟩
  simp only [T84]
  exact evt_bind h (evt_some _)
def bareF (s : Bs) : Bs := match aroundF 39 s with
  | none => s
  | some p => match aroundF 39 p.2 with | none => s | some q => q.2
theorem bareF_le (s : Bs) : (bareF s).length ≤ s.length := by
  unfold bareF
  cases h : aroundF 39 s with
  | none => simp
  | some p =>
    have h1 := congrArg List.length (around_eq h)
    dsimp only
    cases h' : aroundF 39 p.2 with
    | none => simp
    | some q => have h2 := congrArg List.length (around_eq h'); simp at h1 h2 ⊢; omega
theorem cutK_around (b : UInt8) (k : Nat) (s : Bs) : cutK b (k + 1) s = match aroundF b s with | none => [s] | some p => p.1 :: cutK b k p.2 := by
  rw [cutK, index_around]
  cases h : aroundF b s with
  | none => simp
  | some p =>
    have e := around_eq h
    have h1 : ¬ ((p.1.length : Int) = -1) := by omega
    simp only [h1, if_false, Int.toNat_natCast]
    have e1 : s.take p.1.length = p.1 := by conv => lhs; rw [e]
                                            simp
    have e2 : s.drop (p.1.length + 1) = p.2 := by conv => lhs; rw [e]
                                                  simp
    rw [e1, e2]
theorem ret106 (s : Bs) (hs : s.length ≤ 1000000) : Ret 106 [.str s] [] (.str (bareF s), []) := by
  have h53 : Ret 115 [.str s, .str [39], .int .i64 (3 : Int)] [] (.lst 9 false ((cutK 39 (min (Int.toNat 3) (s.length + 1) - 1) s).map V.str), []) := by
    refine ret_hand (h := splitF) rfl ?_
    have : s.length < 4294967281 := by omega
    simp [splitF, this]
  refine M106 s ?_
  simp only [T106]
  refine evt_bind h53 ?_
  simp only [V.getL, List.length_map]
  generalize hk : cutK 39 (min (Int.toNat 3) (s.length + 1) - 1) s = ps
  have hmain : (ps.length < 3 ∧ bareF s = s) ∨ (∃ a b, ps = [a, b, bareF s]) := by
    unfold bareF
    by_cases h2 : 2 ≤ s.length
    · have : min (Int.toNat 3) (s.length + 1) - 1 = 2 := by simp; omega
      rw [this, cutK_around] at hk
      cases h : aroundF 39 s with
      | none => rw [h] at hk; left; subst hk; simp
      | some p =>
        rw [h] at hk
        simp only [cutK_around] at hk
        cases h' : aroundF 39 p.2 with
        | none => rw [h'] at hk; left; subst hk; exact ⟨by simp, by simp only [h']⟩
        | some q => rw [h'] at hk; right; subst hk; exact ⟨p.1, q.1, by simp [h', cutK]⟩
    · left
      have hsm : (match aroundF 39 s with | none => s | some p => match aroundF 39 p.2 with | none => s | some q => q.2) = s := by
        cases h : aroundF 39 s with
        | none => rfl
        | some p =>
          have h1 := congrArg List.length (around_eq h)
          dsimp only
          cases h' : aroundF 39 p.2 with
          | none => rfl
          | some q => have h3 := congrArg List.length (around_eq h'); simp at h1 h3; omega
      refine ⟨?_, hsm⟩
      have : min (Int.toNat 3) (s.length + 1) - 1 ≤ 1 := by simp; omega
      have hk2 : ∀ k, k ≤ 1 → (cutK 39 k s).length < 3 := by
        intro k hk
        match k, hk with
        | 0, _ => simp [cutK]
        | 1, _ => rw [cutK_around]; cases aroundF 39 s <;> simp [cutK]
      rw [← hk]; exact hk2 _ this
  rcases hmain with ⟨h1, h2⟩ | ⟨a, b, h⟩
  · have g : (ps.length : Int) < 3 := by omega
    simp only [g, decide_true, if_true, h2]
    exact evt_some _
  · subst h
    simp only [List.length_cons, List.length_nil, show ¬ (((0 + 1 + 1 + 1 : Nat) : Int) < 3) by omega, decide_false, Bool.false_eq_true, if_false]
    generalize bareF s = x
    exact evt_some _
def digF (n : Nat) : Bs := if n < 10 then [UInt8.ofNat (48 + n)] else digF (n / 10) ++ [UInt8.ofNat (48 + n % 10)]
termination_by n
theorem digF_small {n : Nat} (h : n < 10) : digF n = [UInt8.ofNat (48 + n)] := by rw [digF, if_pos h]
theorem digF_big {n : Nat} (h : ¬ n < 10) : digF n = digF (n / 10) ++ [UInt8.ofNat (48 + n % 10)] := by rw [digF, if_neg h]
theorem digF_length : ∀ n : Nat, (digF n).length ≤ n + 1 := by
  intro n
  induction n using Nat.strongRecOn with
  | _ n ih =>
    by_cases h : n < 10
    · rw [digF_small h]; simp
    · rw [digF_big h]
      have := ih (n / 10) (by omega)
      simp; omega
theorem enc10 : ∀ d : Fin 10, (Utf8.encode (IntKind.wrap .i32 (IntKind.wrap .i64 (48 + (d.val : Int))))).data.toList = [UInt8.ofNat (48 + d.val)] := by decide +kernel
theorem loop116 : ∀ (n : Nat) (out : Bs), 0 < n → n + out.length ≤ 2000000 → Evt (fun k m => L116 (callN cfg k) m (n : Int) out false) (.str (digF n ++ out), []) := by
  intro n
  induction n using Nat.strongRecOn with
  | _ n ih =>
    intro out hn hb
    refine N116_0 (n : Int) out false ?_
    have h1 : ((n : Int) != 0) = true := by simp; omega
    have h2 : ((10 : Int) != 0) = true := by decide
    have ht : Int.tmod (n : Int) 10 = ((n % 10 : Nat) : Int) := by rw [Int.tmod_eq_emod_of_nonneg (by omega)]; omega
    have hq : IntKind.wrap .i64 (Int.tdiv (n : Int) 10) = ((n / 10 : Nat) : Int) := by
      rw [Int.tdiv_eq_ediv_of_nonneg (by omega), wrap64 (by omega) (by omega)]; omega
    have hm : IntKind.wrap .i64 (0 - ((n % 10 : Nat) : Int)) = -((n % 10 : Nat) : Int) := by rw [wrap64 (by omega) (by omega)]; omega
    have hng : ¬ (-((n % 10 : Nat) : Int) > ((n % 10 : Nat) : Int)) := by omega
    have he := enc10 ⟨n % 10, by omega⟩
    simp only at he
    have hc : catOk [UInt8.ofNat (48 + n % 10)] out = true := cat_ok (by simp; omega)
    simp only [T116_0, h1, if_true, h2, chk_t, ht, hq, hm, hng, if_false, he, chk_b hc]
    by_cases hs : n < 10
    · have e : n / 10 = 0 := by omega
      have e' : n % 10 = n := by omega
      rw [e, e', digF_small hs]
      refine N116_0 ((0 : Nat) : Int) _ false ?_
      have h0 : ((((0 : Nat) : Int)) != 0) = false := by decide
      simp only [T116_0, h0, Bool.false_eq_true, if_false]
      exact evt_some _
    · rw [digF_big hs]
      have := ih (n / 10) (by omega) ([UInt8.ofNat (48 + n % 10)] ++ out) (by omega) (by simp; omega)
      simpa using this
theorem ret116 (n : Nat) (hn : n ≤ 1000001) : Ret 116 [.int .i64 (n : Int)] [] (.str (digF n), []) := by
  refine M116 (n : Int) ?_
  simp only [T116]
  by_cases h : n = 0
  · subst h
    have h0 : ((((0 : Nat) : Int)) == 0) = true := by decide
    simp only [h0, if_true, digF_small (show 0 < 10 by omega)]
    exact evt_some _
  · have h0 : ((n : Int) == 0) = false := by simp; omega
    have h1 : ¬ ((n : Int) < 0) := by omega
    simp only [h0, Bool.false_eq_true, if_false, h1, decide_false]
    have := loop116 n [] (by omega) (by simp; omega)
    simpa using this
end Go.Proofs.YtemgbdncidgoiaaDoor
end
section
namespace Go.Proofs.YtemgbdncidgoiaaDoor
open Go.Ev Go
theorem findF_some : ∀ {l : Ps} {name v : Bs}, findF l name = some v → ∃ p ∈ l, p.1 = name ∧ p.2 = v
  | [], _, _, h => by simp [findF] at h
  | p :: l, name, v, h => by
    unfold findF at h
    split at h
    · rename_i e; cases h; exact ⟨p, by simp, e, rfl⟩
    · obtain ⟨q, hq, h1⟩ := findF_some h
      exact ⟨q, by simp [hq], h1⟩
def joinS (l : Ps) (base : Bs) (n : Nat) : Option Bs :=
  match findF l ((base ++ [42]) ++ digF n) with
  | some v => some v
  | none => match findF l (((base ++ [42]) ++ digF n) ++ [42]) with
    | some v => some (openF (if n = 0 then bareF v else v))
    | none => none
def joinL (l : Ps) (base : Bs) : Nat → Nat → Bs
  | 0, _ => []
  | f + 1, n => match joinS l base n with | none => [] | some v => v ++ joinL l base f (n + 1)
def valD (ds : Bs) : Nat := ds.foldl (fun a d => 10 * a + (d.toNat - 48)) 0
theorem digit_nat {d : Nat} (h : d < 10) : (UInt8.ofNat (48 + d)).toNat = 48 + d := by simp; omega
theorem valD_digF : ∀ n : Nat, valD (digF n) = n := by
  intro n
  induction n using Nat.strongRecOn with
  | _ n ih =>
    by_cases h : n < 10
    · rw [digF_small h]
      show 10 * 0 + ((UInt8.ofNat (48 + n)).toNat - 48) = n
      rw [digit_nat h]; omega
    · rw [digF_big h]
      have := ih (n / 10) (by omega)
      unfold valD at this ⊢
      rw [List.foldl_append, this]
      show 10 * (n / 10) + ((UInt8.ofNat (48 + n % 10)).toNat - 48) = n
      rw [digit_nat (by omega)]; omega
theorem digF_no42 : ∀ n : Nat, ∀ d ∈ digF n, d ≠ 42 := by
  intro n
  have key : ∀ m, m < 10 → UInt8.ofNat (48 + m) ≠ 42 := fun m hm e => by
    have := congrArg UInt8.toNat e
    rw [digit_nat hm] at this
    simp at this; omega
  induction n using Nat.strongRecOn with
  | _ n ih =>
    by_cases h : n < 10
    · rw [digF_small h]
      intro d hd
      rw [List.mem_singleton] at hd; subst hd; exact key n h
    · rw [digF_big h]
      intro d hd
      rw [List.mem_append] at hd
      rcases hd with hd | hd
      · exact ih (n / 10) (by omega) d hd
      · rw [List.mem_singleton] at hd; subst hd; exact key _ (by omega)
theorem digF_strip (n : Nat) (e : Bs) (he : e = [] ∨ e = [42]) : (digF n ++ e).filter (· != 42) = digF n := by
  rw [List.filter_append]
  have h1 : (digF n).filter (· != 42) = digF n := List.filter_eq_self.2 fun d hd => by simpa using digF_no42 n d hd
  rw [h1]
  rcases he with rfl | rfl <;> simp
def matchN (base : Bs) (p : Bs × Bs) (n : Nat) : Bool := p.1 == (base ++ [42]) ++ digF n || p.1 == ((base ++ [42]) ++ digF n) ++ [42]
theorem matchN_one {base : Bs} {p : Bs × Bs} {n m : Nat} (h : matchN base p n = true) (h' : matchN base p m = true) : n = m := by
  have key : ∀ k, matchN base p k = true → ∃ e, (e = [] ∨ e = [42]) ∧ p.1 = (base ++ [42]) ++ (digF k ++ e) := by
    intro k hk
    simp only [matchN, Bool.or_eq_true, beq_iff_eq] at hk
    rcases hk with hk | hk
    · exact ⟨[], .inl rfl, by rw [hk]; simp⟩
    · exact ⟨[42], .inr rfl, by rw [hk]; simp⟩
  obtain ⟨e1, he1, h1⟩ := key n h
  obtain ⟨e2, he2, h2⟩ := key m h'
  have := List.append_cancel_left (h1.symm.trans h2)
  have h3 := congrArg (List.filter (· != 42)) this
  rw [digF_strip n e1 he1, digF_strip m e2 he2] at h3
  rw [← valD_digF n, ← valD_digF m, h3]
theorem joinS_match {l : Ps} {base : Bs} {n : Nat} {v : Bs} (h : joinS l base n = some v) : ∃ p ∈ l, matchN base p n = true ∧ v.length ≤ p.2.length := by
  unfold joinS at h
  split at h
  · rename_i u hu
    cases h
    obtain ⟨p, hp, h1, h2⟩ := findF_some hu
    exact ⟨p, hp, by simp [matchN, h1], by rw [h2]; exact Nat.le_refl _⟩
  · split at h
    · rename_i u hu
      cases h
      obtain ⟨p, hp, h1, h2⟩ := findF_some hu
      refine ⟨p, hp, by simp [matchN, h1], ?_⟩
      rw [h2]
      split
      · exact Nat.le_trans (openF_le _) (bareF_le _)
      · exact openF_le _
    · cases h
theorem filter_split {α : Type} (q : α → Bool) : ∀ S : List α, S.length = (S.filter q).length + (S.filter fun x => !q x).length
  | [] => rfl
  | x :: S => by
    have := filter_split q S
    cases h : q x <;> simp [h] <;> omega
theorem nodup_one {α : Type} : ∀ {S : List α}, S.Nodup → (∀ x ∈ S, ∀ y ∈ S, x = y) → S.length ≤ 1
  | [], _, _ => by simp
  | [x], _, _ => by simp
  | x :: y :: S, h, h' => by
    have := h' x (by simp) y (by simp)
    subst this
    simp at h
theorem pigeon (base : Bs) : ∀ (l : Ps) (S : List Nat), S.Nodup → (∀ n ∈ S, ∃ p ∈ l, matchN base p n = true) → S.length ≤ l.length
  | [], S, _, h => by
    cases S with
    | nil => simp
    | cons n S => obtain ⟨p, hp, _⟩ := h n (by simp); simp at hp
  | p :: l, S, hn, h => by
    have h1 := filter_split (fun n => matchN base p n) S
    have h2 : (S.filter fun n => matchN base p n).length ≤ 1 := nodup_one (hn.filter _) fun x hx y hy => by
      rw [List.mem_filter] at hx hy
      exact matchN_one hx.2 hy.2
    have h3 := pigeon base l (S.filter fun n => !matchN base p n) (hn.filter _) fun n hnm => by
      rw [List.mem_filter] at hnm
      obtain ⟨q, hq, hm⟩ := h n hnm.1
      rw [List.mem_cons] at hq
      rcases hq with rfl | hq
      · rw [hm] at hnm; simp at hnm
      · exact ⟨q, hq, hm⟩
    rw [List.length_cons]; omega
theorem joinS_ends (l : Ps) (base : Bs) : ∃ m, m ≤ l.length ∧ joinS l base m = none := by
  apply Classical.byContradiction
  intro hno
  have : ∀ n ∈ List.range (l.length + 1), ∃ p ∈ l, matchN base p n = true := by
    intro n hn
    rw [List.mem_range] at hn
    cases h : joinS l base n with
    | none => exact absurd ⟨n, by omega, h⟩ hno
    | some v => obtain ⟨p, hp, hm, _⟩ := joinS_match h; exact ⟨p, hp, hm⟩
  have := pigeon base l _ List.nodup_range this
  simp at this; omega
theorem loop107 (l : Ps) (base : Bs) (hl : l.length ≤ 1000000) (hv : ∀ p ∈ l, p.2.length ≤ 1000000) (hb : base.length ≤ 1000000) : ∀ (f n : Nat) (out : Bs), n + f ≤ 1000001 → out.length ≤ n * 1000000 →
    (∃ m, n ≤ m ∧ m < n + f ∧ joinS l base m = none) →
    Evt (fun k j => L107 (callN cfg k) j (l.map pV) base out (n : Int)) (.tup [.str (out ++ joinL l base f n), .bool (decide (0 < n) || (joinS l base n).isSome)], [])
  | 0, n, out, _, _, ⟨m, h1, h2, _⟩ => by omega
  | f + 1, n, out, hf, ho, ⟨m, h1, h2, h3⟩ => by
    refine N107_0 (l.map pV) base out (n : Int) ?_
    have hd := digF_length n
    have c1 : catOk base [42] = true := cat_ok (by simp; omega)
    have c2 : catOk (base ++ [42]) (digF n) = true := cat_ok (by simp; omega)
    have c3 : catOk ((base ++ [42]) ++ digF n) [42] = true := cat_ok (by simp; omega)
    have hw : IntKind.wrap .i64 ((n : Int) + 1) = ((n + 1 : Nat) : Int) := by rw [wrap64 (by omega) (by omega)]; omega
    have next : ∀ v, joinS l base n = some v → catOk out v = true ∧ Evt (fun k j => L107 (callN cfg k) j (l.map pV) base (out ++ v) ((n + 1 : Nat) : Int)) (.tup [.str (out ++ joinL l base (f + 1) n), .bool (decide (0 < n) || (joinS l base n).isSome)], []) := by
      intro v hj
      obtain ⟨p, hp, _, hle⟩ := joinS_match hj
      have := hv p hp
      refine ⟨cat_ok (by omega), ?_⟩
      have hne : n ≠ m := fun e => by rw [e, h3] at hj; cases hj
      have := loop107 l base hl hv hb f (n + 1) (out ++ v) (by omega) (by simp; omega) ⟨m, by omega, by omega, h3⟩
      rw [joinL, hj]
      simpa using this
    simp only [T107_0, chk_b c1]
    refine evt_bind (ret116 n (by omega)) ?_
    simp only [V.getS, chk_b c2]
    refine evt_bind (ret104 l hl _) ?_
    simp only [V.getT, List.tail_cons, List.headD_cons, V.getB, V.getS]
    cases hj1 : findF l ((base ++ [42]) ++ digF n) with
    | some v =>
      have hj : joinS l base n = some v := by unfold joinS; rw [hj1]
      obtain ⟨hc, hn⟩ := next v hj
      simp only [Option.isSome_some, Bool.not_true, Bool.false_eq_true, if_false, Option.getD_some, chk_b hc, hw]
      exact hn
    | none =>
      simp only [Option.isSome_none, Bool.not_false, if_true, chk_b c3]
      refine evt_bind (ret104 l hl _) ?_
      simp only [V.getT, List.tail_cons, List.headD_cons, V.getB, V.getS]
      cases hj2 : findF l (((base ++ [42]) ++ digF n) ++ [42]) with
      | none =>
        have hj : joinS l base n = none := by unfold joinS; rw [hj1]; dsimp only; rw [hj2]
        simp only [Option.isSome_none, Bool.not_false, if_true]
        rw [joinL, hj]
        have : (decide ((n : Int) > 0)) = (decide (0 < n) || (none : Option Bs).isSome) := by simp
        rw [this]
        simp only [List.append_nil]
        exact evt_some _
      | some v =>
        have hj : joinS l base n = some (openF (if n = 0 then bareF v else v)) := by unfold joinS; rw [hj1]; dsimp only; rw [hj2]
        obtain ⟨hc, hn⟩ := next _ hj
        obtain ⟨p, hp, _, rfl⟩ := findF_some hj2
        have hvl := hv p hp
        simp only [Option.isSome_some, Bool.not_true, Bool.false_eq_true, if_false, Option.getD_some]
        by_cases h0 : n = 0
        · have hb0 : ((n : Int) == 0) = true := by simp [h0]
          simp only [hb0, if_true]
          refine evt_bind (ret106 p.2 hvl) ?_
          simp only [V.getS]
          refine evt_bind (ret105 _ (Nat.le_trans (bareF_le _) hvl)) ?_
          rw [if_pos h0] at hc hn
          simp only [V.getS, chk_b hc, hw]
          exact hn
        · have hb0 : ((n : Int) == 0) = false := by simp [h0]
          simp only [hb0, Bool.false_eq_true, if_false]
          refine evt_bind (ret105 _ hvl) ?_
          rw [if_neg h0] at hc hn
          simp only [V.getS, chk_b hc, hw]
          exact hn
def joinF (l : Ps) (base : Bs) : Option Bs := if (joinS l base 0).isSome then some (joinL l base (l.length + 1) 0) else none
theorem ret107 (l : Ps) (base : Bs) (hl : l.length ≤ 1000000) (hv : ∀ p ∈ l, p.2.length ≤ 1000000) (hb : base.length ≤ 1000000) :
    Ret 107 [.lst 116 false (l.map pV), .str base] [] (.tup [.str ((joinF l base).getD []), .bool (joinF l base).isSome], []) := by
  refine M107 (l.map pV) base ?_
  simp only [T107]
  obtain ⟨m, h1, h2⟩ := joinS_ends l base
  have := loop107 l base hl hv hb (l.length + 1) 0 [] (by omega) (by simp) ⟨m, by omega, by omega, h2⟩
  unfold joinF
  cases hj : joinS l base 0 with
  | none => rw [hj] at this; simpa [joinL, hj] using this
  | some v => rw [hj] at this; simpa [hj] using this
def toldF (l : Ps) (base : Bs) : Option Bs :=
  match findF l base with
  | some v => some v
  | none => match findF l (base ++ [42]) with
    | some v => some (openF (bareF v))
    | none => joinF l base
theorem ret85 (l : Ps) (base : Bs) (hl : l.length ≤ 1000000) (hv : ∀ p ∈ l, p.2.length ≤ 1000000) (hb : base.length ≤ 1000000) :
    Ret 85 [.lst 116 false (l.map pV), .str base] [] (.tup [.str ((toldF l base).getD []), .bool (toldF l base).isSome], []) := by
  refine M85 (l.map pV) base ?_
  have c1 : catOk base [42] = true := cat_ok (by simp; omega)
  simp only [T85]
  refine evt_bind (ret104 l hl base) ?_
  simp only [V.getT, List.tail_cons, List.headD_cons, V.getB, V.getS]
  unfold toldF
  cases h1 : findF l base with
  | some v =>
    simp only [Option.isSome_some, if_true, Option.getD_some]
    exact evt_some _
  | none =>
    simp only [Option.isSome_none, Bool.false_eq_true, if_false, chk_b c1]
    refine evt_bind (ret104 l hl _) ?_
    simp only [V.getT, List.tail_cons, List.headD_cons, V.getB, V.getS]
    cases h2 : findF l (base ++ [42]) with
    | some v =>
      obtain ⟨p, hp, _, rfl⟩ := findF_some h2
      simp only [Option.isSome_some, if_true, Option.getD_some]
      refine evt_bind (ret106 _ (hv p hp)) ?_
      simp only [V.getS]
      refine evt_bind (ret105 _ (Nat.le_trans (bareF_le _) (hv p hp))) ?_
      exact evt_some _
    | none =>
      simp only [Option.isSome_none, Bool.false_eq_true, if_false]
      refine evt_bind (ret107 l base hl hv hb) ?_
      exact evt_some _
end Go.Proofs.YtemgbdncidgoiaaDoor
end
section
namespace Go.Proofs.YtemgbdncidgoiaaDoor
open Go.Ev Go
theorem pairsF_small : ∀ (n : Nat) (s : Bs), s.length ≤ n → (pairsF s).length ≤ s.length ∧ ∀ p ∈ pairsF s, p.1.length ≤ s.length ∧ p.2.length ≤ s.length := by
  intro n
  induction n with
  | zero =>
    intro s h
    have : s = [] := List.eq_nil_of_length_eq_zero (by omega)
    subst this
    have hb : byteF 59 [] = none := by simp [byteF, skipF_nil]
    rw [pairsF_eq]; simp [hb]
  | succ n ih =>
    intro s h
    rw [pairsF_eq]
    cases h1 : byteF 59 s with
    | none => simp
    | some s1 =>
      have g1 := byteF_le h1
      have g2 := tokF_le s1
      dsimp only
      split
      · simp
      · cases h2 : byteF 61 (tokF s1).2 with
        | none => simp
        | some s3 =>
          have g3 := byteF_le h2
          dsimp only
          cases h3 : valF s3 with
          | none => simp
          | some p =>
            obtain ⟨v, s4⟩ := p
            have g4 := valF_le h3
            obtain ⟨e1, e2⟩ := ih s4 (by omega)
            dsimp only
            refine ⟨by rw [List.length_cons]; omega, fun p hp => ?_⟩
            rw [List.mem_cons] at hp
            rcases hp with rfl | hp
            · simp only [List.length_map]; omega
            · have := e2 p hp; omega
theorem same_str (a b : Bs) : (Sc.str a).same (.str b) = (a == b) := rfl
theorem getB_put (x y : Bs) : ∀ m : List (Sc × Sc), Sc.getB (mget (.str x) (mput (.str y) (.bool true) m)) = (x == y || Sc.getB (mget (.str x) m))
  | [] => by
    simp only [mput, mget, same_str]
    by_cases h : x = y
    · simp [h, Sc.getB]
    · simp [h, Sc.getB]
  | (k, u) :: m => by
    have ih := getB_put x y m
    simp only [mput]
    cases hk : (Sc.str y).same k
    · simp only [Bool.false_eq_true, if_false, mget]
      cases hx : (Sc.str x).same k
      · simp only [Bool.false_eq_true, if_false]; exact ih
      · simp only [if_true]
        have : (x == y) = false := by
          cases k with
          | str b =>
            rw [same_str] at hk hx
            have e := eq_of_beq hx
            subst e
            cases hxy : (x == y) with
            | false => rfl
            | true => have e := eq_of_beq hxy; subst e; simp at hk
          | _ => cases hx
        rw [this, Bool.false_or]
    · simp only [if_true, mget]
      cases k with
      | str b =>
        rw [same_str] at hk
        have e := eq_of_beq hk
        subst e
        simp only [same_str]
        by_cases h : x = y
        · simp [h, Sc.getB]
        · simp [h]
      | _ => cases hk
def parP (l : Ps) : List Bs → Ps → Ps
  | _, [] => []
  | seen, p :: r =>
    if baseF p.1 = [] ∨ baseF p.1 ∈ seen then parP l seen r
    else match toldF l (baseF p.1) with
      | some x => (baseF p.1, x) :: parP l (baseF p.1 :: seen) r
      | none => parP l (baseF p.1 :: seen) r
theorem loop60 (l : Ps) (hl : l.length ≤ 1000000) (hv : ∀ p ∈ l, p.1.length ≤ 1000000 ∧ p.2.length ≤ 1000000) (s4 s5 s7 t u : Bs) (l6 : List V) : ∀ (n i : Nat) (out : Ps) (seen : List Bs) (m : List (Sc × Sc)),
    l.length - i ≤ n → out.length ≤ i → (∀ x, Sc.getB (mget (.str x) m) = decide (x ∈ seen)) →
    Evt (fun k j => L60 (callN cfg k) j (l.map pV) (l.map pV) (l.length : Nat) (i : Nat) s4 s5 l6 s7 t u (out.map pV) m) (.tup [.agg [.str t, .str u, .lst 116 false ((out ++ parP l seen (l.drop i)).map pV)], .bool true], []) := by
  have fin : ∀ (i : Nat) (out : Ps) (seen : List Bs) (m : List (Sc × Sc)), l.length ≤ i →
      Evt (fun k j => L60 (callN cfg k) j (l.map pV) (l.map pV) (l.length : Nat) (i : Nat) s4 s5 l6 s7 t u (out.map pV) m) (.tup [.agg [.str t, .str u, .lst 116 false ((out ++ parP l seen (l.drop i)).map pV)], .bool true], []) := by
    intro i out seen m h
    refine N60_0 (l.map pV) (l.map pV) (l.length : Nat) (i : Nat) s4 s5 l6 s7 t u (out.map pV) m ?_
    have h1 : ¬ ((i : Int) < (l.length : Int)) := by omega
    rw [List.drop_eq_nil_of_le h]
    simp only [T60_0, h1, decide_false, Bool.false_eq_true, if_false, parP, List.append_nil]
    exact evt_some _
  intro n
  induction n with
  | zero => intro i out seen m h _ _; exact fin i out seen m (by omega)
  | succ n ih =>
    intro i out seen m h ho hm
    by_cases hlt : i < l.length
    · refine N60_0 (l.map pV) (l.map pV) (l.length : Nat) (i : Nat) s4 s5 l6 s7 t u (out.map pV) m ?_
      have h1 : ((i : Int) < (l.length : Int)) := by omega
      have h2 : (0 : Int) ≤ (i : Int) := by omega
      have hw : IntKind.wrap .i64 ((i : Int) + 1) = ((i + 1 : Nat) : Int) := by rw [wrap64 (by omega) (by omega)]; omega
      have hd : l.drop i = l[i] :: l.drop (i + 1) := List.drop_eq_getElem_cons hlt
      have hpv := hv l[i] (List.getElem_mem hlt)
      have hvv : ∀ p ∈ l, p.2.length ≤ 1000000 := fun p hp => (hv p hp).2
      obtain ⟨r, b, h21⟩ := ret84 l[i].1 hpv.1
      rw [hd, parP]
      simp only [T60_0, h1, decide_true, if_true, chk_p h2, List.length_map, chk_t, Int.toNat_natCast, getD_pV hlt, pV, V.cells, List.headD_cons, List.tail_cons, V.getS]
      refine evt_bind h21 ?_
      simp only [V.getT, V.getS, List.headD_cons, hm, sEq, hw]
      have hskip : (if (baseF l[i].1 == []) = false then some (decide (baseF l[i].1 ∈ seen)) else some true) = some (decide (baseF l[i].1 = [] ∨ baseF l[i].1 ∈ seen)) := by
        by_cases e : baseF l[i].1 = []
        · simp [e]
        · have : (baseF l[i].1 == []) = false := by simpa using e
          simp [e]
      rw [hskip]
      simp only [bind_s]
      by_cases hs : baseF l[i].1 = [] ∨ baseF l[i].1 ∈ seen
      · simp only [hs, decide_true, if_true]
        exact ih (i + 1) out seen m (by omega) (by omega) hm
      · simp only [hs, decide_false, Bool.false_eq_true, if_false]
        refine evt_bind (ret85 l (baseF l[i].1) hl hvv (Nat.le_trans (baseF_le _) hpv.1)) ?_
        have hm' : ∀ x, Sc.getB (mget (.str x) (mput (.str (baseF l[i].1)) (.bool true) m)) = decide (x ∈ baseF l[i].1 :: seen) := by
          intro x
          rw [getB_put, hm]
          by_cases e : x = baseF l[i].1
          · simp [e]
          · have : (x == baseF l[i].1) = false := by simpa using e
            rw [this]; simp [e]
        simp only [V.getT, V.getB, V.getS, List.headD_cons, List.tail_cons]
        cases ht : toldF l (baseF l[i].1) with
        | none =>
          simp only [Option.isSome_none, Bool.false_eq_true, if_false]
          exact ih (i + 1) out (baseF l[i].1 :: seen) _ (by omega) (by omega) hm'
        | some x =>
          have hap : appOk (out.map pV) [V.agg [V.str (baseF l[i].1), V.str x]] 33 = true := app_ok (by simp; omega)
          simp only [Option.isSome_some, if_true, Option.getD_some]
          simp only [chk_b hap]
          have := ih (i + 1) (out ++ [(baseF l[i].1, x)]) (baseF l[i].1 :: seen) _ (by omega) (by simp; omega) hm'
          simpa [pV] using this
    · exact fin i out seen m (by omega)
def parseF (s : Bs) (two : Bool) : Option (Bs × Bs × Ps) :=
  if (tokF (skipF s)).1 = [] then none
  else if two then match byteF 47 (tokF (skipF s)).2 with
    | none => none
    | some s2 => if (tokF s2).1 = [] then none else some ((tokF (skipF s)).1.map low8, (tokF s2).1.map low8, parP (pairsF (tokF s2).2) [] (pairsF (tokF s2).2))
  else some ((tokF (skipF s)).1.map low8, [], parP (pairsF (tokF (skipF s)).2) [] (pairsF (tokF (skipF s)).2))
def parseV : Option (Bs × Bs × Ps) → V
  | none => .tup [.agg [.str [], .str [], .lst 116 false []], .bool false]
  | some (t, u, ps) => .tup [.agg [.str t, .str u, .lst 116 false (ps.map pV)], .bool true]
theorem ret60_end (s : Bs) (hs : s.length ≤ 1000000) (rest t u s4 s5 : Bs) (l6 : List V) :
    Evt (fun k j => L60 (callN cfg k) j ((pairsF s).map pV) ((pairsF s).map pV) ((((pairsF s).map pV).length : Nat) : Int) (0 : Int) s4 s5 l6 rest t u [] []) (parseV (some (t, u, parP (pairsF s) [] (pairsF s))), []) := by
  obtain ⟨g1, g2⟩ := pairsF_small s.length s (Nat.le_refl _)
  have := loop60 (pairsF s) (by omega) (fun p hp => by have := g2 p hp; omega) s4 s5 rest t u l6 (pairsF s).length 0 [] [] [] (by omega) (by simp) (fun x => by simp [mget, Sc.getB])
  rw [List.length_map]
  simpa [parseV] using this
theorem ret60 (s : Bs) (hs : s.length ≤ 1000000) (two : Bool) : Ret 60 [.str s, .bool two] [] (parseV (parseF s two), []) := by
  refine M60 s two ?_
  have h0 := skipF_le s
  have h1 := tokF_le (skipF s)
  simp only [T60]
  refine evt_bind (ret80 s hs) ?_
  simp only [List.headD_cons, Ob.getC, V.getS]
  refine evt_bind (ret81 (skipF s) (by omega)) ?_
  simp only [V.getS]
  refine evt_bind (ret65 _ (by omega)) ?_
  simp only [V.getS, List.headD_cons, Ob.getC, sEq]
  unfold parseF
  by_cases ht : (tokF (skipF s)).1 = []
  · simp only [ht, List.map_nil, beq_self_eq_true, if_true]
    exact evt_some _
  · have hb : (((tokF (skipF s)).1.map low8) == []) = false := by simp [ht]
    simp only [hb, Bool.false_eq_true, if_false, ht]
    cases two with
    | false =>
      simp only [Bool.false_eq_true, if_false]
      obtain ⟨rest, h20⟩ := ret83 (tokF (skipF s)).2 (by omega)
      refine evt_bind h20 ?_
      simp only [V.getL, List.headD_cons, Ob.getC, V.getS]
      exact ret60_end _ (by omega) _ _ _ _ _ _
    | true =>
      simp only [if_true]
      refine evt_bind (ret82 (tokF (skipF s)).2 (by omega) 47 (by decide)) ?_
      simp only [V.getB, List.headD_cons, Ob.getC, V.getS]
      cases h2 : byteF 47 (tokF (skipF s)).2 with
      | none =>
        simp only [Option.isSome_none, Bool.not_false, if_true]
        exact evt_some _
      | some s2 =>
        have g2 := byteF_le h2
        have g3 := tokF_le s2
        simp only [Option.isSome_some, Bool.not_true, Bool.false_eq_true, if_false, byteR, h2]
        refine evt_bind (ret81 s2 (by omega)) ?_
        simp only [V.getS, List.headD_cons, Ob.getC]
        refine evt_bind (ret65 _ (by omega)) ?_
        simp only [V.getS]
        by_cases hu : (tokF s2).1 = []
        · simp only [hu, List.map_nil, beq_self_eq_true, if_true]
          exact evt_some _
        · have hb2 : (((tokF s2).1.map low8) == []) = false := by simp [hu]
          simp only [hb2, Bool.false_eq_true, if_false, hu]
          obtain ⟨rest, h20⟩ := ret83 (tokF s2).2 (by omega)
          refine evt_bind h20 ?_
          simp only [V.getL, List.headD_cons, Ob.getC, V.getS]
          exact ret60_end _ (by omega) _ _ _ _ _ _
def getF : Ps → Bs → Option Bs
  | [], _ => none
  | p :: r, name => if p.1.map low8 = name.map low8 then some p.2 else getF r name
theorem loop41 (name : Bs) (hn : name.length ≤ 1000000) (l : Ps) (hl : l.length ≤ 1000000) (hv : ∀ p ∈ l, p.1.length ≤ 1000000) : ∀ (n i : Nat), l.length - i ≤ n →
    Evt (fun k n => L41 (callN cfg k) n name (l.map pV) (l.length : Nat) (i : Nat)) (.tup [.str ((getF (l.drop i) name).getD []), .bool (getF (l.drop i) name).isSome], []) := by
  have fin : ∀ i : Nat, l.length ≤ i → Evt (fun k n => L41 (callN cfg k) n name (l.map pV) (l.length : Nat) (i : Nat)) (.tup [.str ((getF (l.drop i) name).getD []), .bool (getF (l.drop i) name).isSome], []) := by
    intro i h
    refine N41_0 name (l.map pV) (l.length : Nat) (i : Nat) ?_
    have h1 : ¬ ((i : Int) < (l.length : Int)) := by omega
    rw [List.drop_eq_nil_of_le h]
    simp only [T41_0, h1, decide_false, Bool.false_eq_true, if_false, getF]
    exact evt_some _
  intro n
  induction n with
  | zero => intro i h; exact fin i (by omega)
  | succ n ih =>
    intro i h
    by_cases hlt : i < l.length
    · refine N41_0 name (l.map pV) (l.length : Nat) (i : Nat) ?_
      have h1 : ((i : Int) < (l.length : Int)) := by omega
      have h2 : (0 : Int) ≤ (i : Int) := by omega
      have hw : IntKind.wrap .i64 ((i : Int) + 1) = ((i + 1 : Nat) : Int) := by rw [wrap64 (by omega) (by omega)]; omega
      have hd : l.drop i = l[i] :: l.drop (i + 1) := List.drop_eq_getElem_cons hlt
      have hpv := hv l[i] (List.getElem_mem hlt)
      rw [hd, getF]
      simp only [T41_0, h1, decide_true, if_true, chk_p h2, List.length_map, chk_t, Int.toNat_natCast, getD_pV hlt, pV, V.cells, List.headD_cons, List.tail_cons, V.getS, hw]
      refine evt_bind (ret62 l[i].1 name (by omega) (by omega)) ?_
      simp only [V.getB]
      by_cases he : l[i].1.map low8 = name.map low8
      · simp only [he, beq_self_eq_true, if_true]
        exact evt_some _
      · have : (l[i].1.map low8 == name.map low8) = false := by simpa using he
        simp only [this, Bool.false_eq_true, if_false, he]
        exact ih (i + 1) (by omega)
    · exact fin i (by omega)
theorem ret41 (t u : Bs) (l : Ps) (hl : l.length ≤ 1000000) (hv : ∀ p ∈ l, p.1.length ≤ 1000000) (name : Bs) (hn : name.length ≤ 1000000) :
    Ret 41 [.agg [.str t, .str u, .lst 116 false (l.map pV)], .str name] [] (.tup [.str ((getF l name).getD []), .bool (getF l name).isSome], []) := by
  refine M41 t u (l.map pV) name ?_
  simp only [T41, List.length_map]
  exact loop41 name hn l hl hv l.length 0 (by omega)
end Go.Proofs.YtemgbdncidgoiaaDoor
end
section
namespace Go.Proofs.YtemgbdncidgoiaaDoor
open Go.Ev Go
open List (headD tail getD length drop take)
open V (getI getL getT getS getB)
set_option maxRecDepth 100000
variable (call : FuncId → Fun) (icall : ICall (V × List Ob)) (again : List It → St → Option (V × List Ob))
def T56 (call : FuncId → Fun) (a0 : List V) : Option (V × List Ob) :=
 Option.bind (call 76 [(V.lst 104 false a0), (V.clo (Fn.func 77) [] [])] []) fun z0 =>
 some ((V.int .i64 (getI z0.1)), [])
def A56 (a0 : List V) : List V := [V.lst 104 false a0]
theorem E56 (a0 : List V) : GO 56 Tryd.f56 (A56 a0) [] call icall again = T56 call a0 := by kernel_rfl
theorem C56 (k : Nat) (a0 : List V) : callN cfg (k + 1) 56 (A56 a0) [] = T56 (callN cfg k) a0 :=
 (show callN cfg (k + 1) 56 (A56 a0) [] = GO 56 Tryd.f56 (A56 a0) [] (callN cfg k) (icallN cfg (callN cfg k) 20) (RN 56 Tryd.f56 [] (callN cfg k) (icallN cfg (callN cfg k) 20) k) by kernel_rfl).trans (E56 _ _ _ a0)
theorem M56 (a0 : List V) {r : V × List Ob} (h : Evt (fun k n => T56 (callN cfg k) a0) r) : Ret 56 [V.lst 104 false a0] [] r := ret_mk (g := fun k n => T56 (callN cfg k) a0) (fun k => C56 k a0) h
def T57 (call : FuncId → Fun) (a0 : List V) (a1 : Int) (a2 : Int) (a3 : Int) : Option (V × List Ob) :=
 Option.bind (call 73 [(V.agg [(V.int .i64 a1), (V.int .i64 a2)]), (V.int .i64 ((length a0 : Nat) : Int))] []) fun z0 =>
 if (!(getB z0.1)) = true then
 some ((V.str []), [])
 else
 chk (decide (0 ≤ a2)) (chk (decide (a2 ≤ ((length a0 : Nat) : Int))) (chk (decide (0 ≤ a1)) (chk (decide (a1 ≤ a2)) (some ((V.str (bytesOf (drop (Int.toNat a1) (take (Int.toNat a2) a0)))), [])))))
def A57 (a0 : List V) (a1 : Int) (a2 : Int) (a3 : Int) : List V := [V.lst 5 false a0, V.agg [V.int IntKind.i64 a1, V.int IntKind.i64 a2, V.int IntKind.i64 a3]]
theorem E57 (a0 : List V) (a1 : Int) (a2 : Int) (a3 : Int) : GO 57 Tryd.f57 (A57 a0 a1 a2 a3) [] call icall again = T57 call a0 a1 a2 a3 := by kernel_rfl
theorem C57 (k : Nat) (a0 : List V) (a1 : Int) (a2 : Int) (a3 : Int) : callN cfg (k + 1) 57 (A57 a0 a1 a2 a3) [] = T57 (callN cfg k) a0 a1 a2 a3 :=
 (show callN cfg (k + 1) 57 (A57 a0 a1 a2 a3) [] = GO 57 Tryd.f57 (A57 a0 a1 a2 a3) [] (callN cfg k) (icallN cfg (callN cfg k) 20) (RN 57 Tryd.f57 [] (callN cfg k) (icallN cfg (callN cfg k) 20) k) by kernel_rfl).trans (E57 _ _ _ a0 a1 a2 a3)
theorem M57 (a0 : List V) (a1 : Int) (a2 : Int) (a3 : Int) {r : V × List Ob} (h : Evt (fun k n => T57 (callN cfg k) a0 a1 a2 a3) r) : Ret 57 [V.lst 5 false a0, V.agg [V.int IntKind.i64 a1, V.int IntKind.i64 a2, V.int IntKind.i64 a3]] [] r := ret_mk (g := fun k n => T57 (callN cfg k) a0 a1 a2 a3) (fun k => C57 k a0 a1 a2 a3) h
def T58 (call : FuncId → Fun) (a0 : List UInt8) : Option (V × List Ob) :=
 if (!(sEq a0 [])) = true then
 chk (decide (0 ≤ (0 : Int))) (chk (decide ((0 : Int) < ((length a0 : Nat) : Int))) (Option.bind (call 78 [(V.int .u8 ((UInt8.toNat (getD a0 (Int.toNat (0 : Int)) 0) : Nat) : Int))] []) fun z0 =>
 some ((V.bool (getB z0.1)), [])))
 else
 some ((V.bool false), [])
def A58 (a0 : List UInt8) : List V := [V.str a0]
theorem E58 (a0 : List UInt8) : GO 58 Tryd.f58 (A58 a0) [] call icall again = T58 call a0 := by kernel_rfl
theorem C58 (k : Nat) (a0 : List UInt8) : callN cfg (k + 1) 58 (A58 a0) [] = T58 (callN cfg k) a0 :=
 (show callN cfg (k + 1) 58 (A58 a0) [] = GO 58 Tryd.f58 (A58 a0) [] (callN cfg k) (icallN cfg (callN cfg k) 20) (RN 58 Tryd.f58 [] (callN cfg k) (icallN cfg (callN cfg k) 20) k) by kernel_rfl).trans (E58 _ _ _ a0)
theorem M58 (a0 : List UInt8) {r : V × List Ob} (h : Evt (fun k n => T58 (callN cfg k) a0) r) : Ret 58 [V.str a0] [] r := ret_mk (g := fun k n => T58 (callN cfg k) a0) (fun k => C58 k a0) h
def T59_0 (call : FuncId → Fun) (ag0 : List UInt8 → Int → Int → Option (V × List Ob)) (ag1 : List UInt8 → Int → Int → Int → Int → Option (V × List Ob)) (s0 : List UInt8) (i1 : Int) (i2 : Int) : Option (V × List Ob) :=
 if (decide (i2 > (0 : Int))) = true then
 chk (decide (0 ≤ (IntKind.wrap .i64 (i2 - (1 : Int))))) (chk (decide ((IntKind.wrap .i64 (i2 - (1 : Int))) < ((length s0 : Nat) : Int))) (Option.bind (call 78 [(V.int .u8 ((UInt8.toNat (getD s0 (Int.toNat (IntKind.wrap .i64 (i2 - (1 : Int)))) 0) : Nat) : Int))] []) fun z0 =>
 if (getB z0.1) = true then
 (ag0 (s0) (i1) ((IntKind.wrap .i64 (i2 - (1 : Int)))))
 else
 (ag1 (s0) (i1) (i2) (i2) ((0 : Int)))))
 else
 (ag1 (s0) (i1) (i2) (i2) ((0 : Int)))
def T59_1 (call : FuncId → Fun) (ag0 : List UInt8 → Int → Int → Option (V × List Ob)) (ag1 : List UInt8 → Int → Int → Int → Int → Option (V × List Ob)) (s0 : List UInt8) (i1 : Int) (i2 : Int) (i3 : Int) (i4 : Int) : Option (V × List Ob) :=
 if (decide (i4 < i3)) = true then
 Option.bind (chk (decide (0 ≤ i4)) (chk (decide (i4 < ((length s0 : Nat) : Int))) (if (decide (((UInt8.toNat (getD s0 (Int.toNat i4) 0) : Nat) : Int) < (33 : Int))) = false then
 chk (decide (0 ≤ i4)) (chk (decide (i4 < ((length s0 : Nat) : Int))) (some (decide (((UInt8.toNat (getD s0 (Int.toNat i4) 0) : Nat) : Int) > (126 : Int)))))
 else
 some true))) fun y0 =>
 if y0 = true then
 some ((V.tup [(V.str []), (V.int .i64 0), (V.bool false)]), [])
 else
 (ag1 (s0) (i1) (i2) (i3) ((IntKind.wrap .i64 (i4 + (1 : Int)))))
 else
 chk (decide (0 ≤ i2)) (chk (decide (i2 ≤ ((length s0 : Nat) : Int))) (chk (decide (0 ≤ (0 : Int))) (chk (decide ((0 : Int) ≤ i2)) (some ((V.tup [(V.str (drop (Int.toNat (0 : Int)) (take (Int.toNat i2) s0))), (V.int .i64 (IntKind.wrap .i64 (i1 + (1 : Int)))), (V.bool (decide (i2 > (0 : Int))))]), [])))))
def T59 (call : FuncId → Fun) (ag0 : List UInt8 → Int → Int → Option (V × List Ob)) (ag1 : List UInt8 → Int → Int → Int → Int → Option (V × List Ob)) (a0 : List UInt8) : Option (V × List Ob) :=
 Option.bind (call 79 [(V.str a0), (V.int .u8 58)] []) fun z0 =>
 if (decide ((getI z0.1) < (0 : Int))) = true then
 some ((V.tup [(V.str []), (V.int .i64 0), (V.bool false)]), [])
 else
 (ag0 (a0) ((getI z0.1)) ((getI z0.1)))
def A59 (a0 : List UInt8) : List V := [V.str a0]
def K59_0 (s0 : List UInt8) (i1 : Int) (i2 : Int) : St := ⟨[(V.str s0), V.bot, V.bot, V.bot, V.bot, (V.int IntKind.i64 i1), (V.int IntKind.i64 i2)] ++ List.replicate 39 V.bot, []⟩
def K59_1 (s0 : List UInt8) (i1 : Int) (i2 : Int) (i3 : Int) (i4 : Int) : St := ⟨[(V.str s0), V.bot, V.bot, V.bot, V.bot, (V.int IntKind.i64 i1), (V.int IntKind.i64 i2), V.bot, V.bot, V.bot, V.bot, V.bot, V.bot, V.bot, V.bot, V.bot, V.bot, V.bot, V.bot, V.bot, V.bot, V.bot, V.bot, V.bot, (V.int IntKind.i64 i3), (V.int IntKind.i64 i4)] ++ List.replicate 20 V.bot, []⟩
theorem S59_0 (s0 : List UInt8) (i1 : Int) (i2 : Int) :
 RM 59 Tryd.f59 [] call icall again (tdOf Tryd.f59 0) (K59_0 s0 i1 i2) = T59_0 call (fun s0 i1 i2 => again (tdOf Tryd.f59 0) (K59_0 s0 i1 i2)) (fun s0 i1 i2 i3 i4 => again (tdOf Tryd.f59 1) (K59_1 s0 i1 i2 i3 i4)) s0 i1 i2 := by kernel_rfl
theorem S59_1 (s0 : List UInt8) (i1 : Int) (i2 : Int) (i3 : Int) (i4 : Int) :
 RM 59 Tryd.f59 [] call icall again (tdOf Tryd.f59 1) (K59_1 s0 i1 i2 i3 i4) = T59_1 call (fun s0 i1 i2 => again (tdOf Tryd.f59 0) (K59_0 s0 i1 i2)) (fun s0 i1 i2 i3 i4 => again (tdOf Tryd.f59 1) (K59_1 s0 i1 i2 i3 i4)) s0 i1 i2 i3 i4 := by kernel_rfl
theorem E59 (a0 : List UInt8) : GO 59 Tryd.f59 (A59 a0) [] call icall again = T59 call (fun s0 i1 i2 => again (tdOf Tryd.f59 0) (K59_0 s0 i1 i2)) (fun s0 i1 i2 i3 i4 => again (tdOf Tryd.f59 1) (K59_1 s0 i1 i2 i3 i4)) a0 := by kernel_rfl
def L59 (call : FuncId → Fun) : Nat → (List UInt8 → Int → Int → Option (V × List Ob)) × (List UInt8 → Int → Int → Int → Int → Option (V × List Ob))
 | 0 => ⟨fun _ _ _ => none, fun _ _ _ _ _ => none⟩
 | n + 1 => ⟨T59_0 call (L59 call n).1 (L59 call n).2, T59_1 call (L59 call n).1 (L59 call n).2⟩
theorem R59 (call : FuncId → Fun) (icall : ICall (V × List Ob)) : ∀ n, (∀ (s0 : List UInt8) (i1 : Int) (i2 : Int), RN 59 Tryd.f59 [] call icall n (tdOf Tryd.f59 0) (K59_0 s0 i1 i2) = (L59 call n).1 s0 i1 i2) ∧ (∀ (s0 : List UInt8) (i1 : Int) (i2 : Int) (i3 : Int) (i4 : Int), RN 59 Tryd.f59 [] call icall n (tdOf Tryd.f59 1) (K59_1 s0 i1 i2 i3 i4) = (L59 call n).2 s0 i1 i2 i3 i4)
  | 0 => ⟨fun s0 i1 i2 => rfl, fun s0 i1 i2 i3 i4 => rfl⟩
  | n + 1 => by
    have ih := R59 call icall n
    exact ⟨fun s0 i1 i2 => (S59_0 call icall (RN 59 Tryd.f59 [] call icall n) s0 i1 i2).trans (by rw [show (fun s0 i1 i2 => RN 59 Tryd.f59 [] call icall n (tdOf Tryd.f59 0) (K59_0 s0 i1 i2)) = (L59 call n).1 from (funext fun s0 => funext fun i1 => funext fun i2 => ih.1 s0 i1 i2), show (fun s0 i1 i2 i3 i4 => RN 59 Tryd.f59 [] call icall n (tdOf Tryd.f59 1) (K59_1 s0 i1 i2 i3 i4)) = (L59 call n).2 from (funext fun s0 => funext fun i1 => funext fun i2 => funext fun i3 => funext fun i4 => ih.2 s0 i1 i2 i3 i4)]; rfl),
      fun s0 i1 i2 i3 i4 => (S59_1 call icall (RN 59 Tryd.f59 [] call icall n) s0 i1 i2 i3 i4).trans (by rw [show (fun s0 i1 i2 => RN 59 Tryd.f59 [] call icall n (tdOf Tryd.f59 0) (K59_0 s0 i1 i2)) = (L59 call n).1 from (funext fun s0 => funext fun i1 => funext fun i2 => ih.1 s0 i1 i2), show (fun s0 i1 i2 i3 i4 => RN 59 Tryd.f59 [] call icall n (tdOf Tryd.f59 1) (K59_1 s0 i1 i2 i3 i4)) = (L59 call n).2 from (funext fun s0 => funext fun i1 => funext fun i2 => funext fun i3 => funext fun i4 => ih.2 s0 i1 i2 i3 i4)]; rfl)⟩
theorem C59 (k : Nat) (a0 : List UInt8) : callN cfg (k + 1) 59 (A59 a0) [] = T59 (callN cfg k) (L59 (callN cfg k) k).1 (L59 (callN cfg k) k).2 a0 := by
 have ih := R59 (callN cfg k) (icallN cfg (callN cfg k) 20) k
 refine (show callN cfg (k + 1) 59 (A59 a0) [] = GO 59 Tryd.f59 (A59 a0) [] (callN cfg k) (icallN cfg (callN cfg k) 20) (RN 59 Tryd.f59 [] (callN cfg k) (icallN cfg (callN cfg k) 20) k) by kernel_rfl).trans ((E59 _ _ _ a0).trans ?_)
 rw [show (fun s0 i1 i2 => RN 59 Tryd.f59 [] (callN cfg k) (icallN cfg (callN cfg k) 20) k (tdOf Tryd.f59 0) (K59_0 s0 i1 i2)) = (L59 (callN cfg k) k).1 from (funext fun s0 => funext fun i1 => funext fun i2 => ih.1 s0 i1 i2), show (fun s0 i1 i2 i3 i4 => RN 59 Tryd.f59 [] (callN cfg k) (icallN cfg (callN cfg k) 20) k (tdOf Tryd.f59 1) (K59_1 s0 i1 i2 i3 i4)) = (L59 (callN cfg k) k).2 from (funext fun s0 => funext fun i1 => funext fun i2 => funext fun i3 => funext fun i4 => ih.2 s0 i1 i2 i3 i4)]
theorem M59 (a0 : List UInt8) {r : V × List Ob} (h : Evt (fun k n => T59 (callN cfg k) (L59 (callN cfg k) n).1 (L59 (callN cfg k) n).2 a0) r) : Ret 59 [V.str a0] [] r := ret_mk (g := fun k n => T59 (callN cfg k) (L59 (callN cfg k) n).1 (L59 (callN cfg k) n).2 a0) (fun k => C59 k a0) h
theorem N59_0 (s0 : List UInt8) (i1 : Int) (i2 : Int) {r : V × List Ob} (h : Evt (fun k n => T59_0 (callN cfg k) (L59 (callN cfg k) n).1 (L59 (callN cfg k) n).2 s0 i1 i2) r) : Evt (fun k n => (L59 (callN cfg k) n).1 s0 i1 i2) r := evt_step (fun k n => rfl) h
theorem N59_1 (s0 : List UInt8) (i1 : Int) (i2 : Int) (i3 : Int) (i4 : Int) {r : V × List Ob} (h : Evt (fun k n => T59_1 (callN cfg k) (L59 (callN cfg k) n).1 (L59 (callN cfg k) n).2 s0 i1 i2 i3 i4) r) : Evt (fun k n => (L59 (callN cfg k) n).2 s0 i1 i2 i3 i4) r := evt_step (fun k n => rfl) h
def T73 (call : FuncId → Fun) (a0 : Int) (a1 : Int) (a2 : Int) : Option (V × List Ob) :=
 Option.bind (if (decide (a0 ≥ (0 : Int))) = true then
 if (decide (a0 ≤ a1)) = true then
 some (decide (a1 ≤ a2))
 else
 some false
 else
 some false) fun y0 =>
 some ((V.bool y0), [])
def A73 (a0 : Int) (a1 : Int) (a2 : Int) : List V := [V.agg [V.int IntKind.i64 a0, V.int IntKind.i64 a1], V.int IntKind.i64 a2]
theorem E73 (a0 : Int) (a1 : Int) (a2 : Int) : GO 73 Tryd.f73 (A73 a0 a1 a2) [] call icall again = T73 call a0 a1 a2 := by kernel_rfl
theorem C73 (k : Nat) (a0 : Int) (a1 : Int) (a2 : Int) : callN cfg (k + 1) 73 (A73 a0 a1 a2) [] = T73 (callN cfg k) a0 a1 a2 :=
 (show callN cfg (k + 1) 73 (A73 a0 a1 a2) [] = GO 73 Tryd.f73 (A73 a0 a1 a2) [] (callN cfg k) (icallN cfg (callN cfg k) 20) (RN 73 Tryd.f73 [] (callN cfg k) (icallN cfg (callN cfg k) 20) k) by kernel_rfl).trans (E73 _ _ _ a0 a1 a2)
theorem M73 (a0 : Int) (a1 : Int) (a2 : Int) {r : V × List Ob} (h : Evt (fun k n => T73 (callN cfg k) a0 a1 a2) r) : Ret 73 [V.agg [V.int IntKind.i64 a0, V.int IntKind.i64 a1], V.int IntKind.i64 a2] [] r := ret_mk (g := fun k n => T73 (callN cfg k) a0 a1 a2) (fun k => C73 k a0 a1 a2) h
def T76_0 (call : FuncId → Fun) (ag0 : List V → Int → Int → Option (V × List Ob)) (l0 : List V) (i1 : Int) (i2 : Int) : Option (V × List Ob) :=
 if (decide (i2 < i1)) = true then
 chk (decide (0 ≤ i2)) (chk (decide (i2 < ((length l0 : Nat) : Int))) (Option.bind (call 77 [(V.agg [(V.int .i64 (getI (headD (V.cells (getD l0 (Int.toNat i2) V.bot)) V.bot))), (V.int .i64 (getI (headD (tail (V.cells (getD l0 (Int.toNat i2) V.bot))) V.bot))), (V.int .i64 (getI (headD (tail (tail (V.cells (getD l0 (Int.toNat i2) V.bot)))) V.bot)))])] []) fun z0 =>
 if (getB z0.1) = true then
 some ((V.int .i64 i2), [])
 else
 (ag0 (l0) (i1) ((IntKind.wrap .i64 (i2 + (1 : Int)))))))
 else
 some ((V.int .i64 (-1 : Int)), [])
def T76 (call : FuncId → Fun) (ag0 : List V → Int → Int → Option (V × List Ob)) (a0 : List V) : Option (V × List Ob) :=
 (ag0 (a0) (((length a0 : Nat) : Int)) ((0 : Int)))
def A76 (a0 : List V) : List V := [V.lst 104 false a0, V.clo (Fn.func 77) [] []]
def K76_0 (l0 : List V) (i1 : Int) (i2 : Int) : St := ⟨[(V.lst 104 false l0), (V.clo (Fn.func 77) [] []), V.bot, V.bot, V.bot, V.bot, V.bot, (V.int IntKind.i64 i1), (V.int IntKind.i64 i2)] ++ List.replicate 10 V.bot, []⟩
theorem S76_0 (l0 : List V) (i1 : Int) (i2 : Int) :
 RM 76 Tryd.f76 [] call icall again (tdOf Tryd.f76 0) (K76_0 l0 i1 i2) = T76_0 call (fun l0 i1 i2 => again (tdOf Tryd.f76 0) (K76_0 l0 i1 i2)) l0 i1 i2 := by kernel_rfl
theorem E76 (a0 : List V) : GO 76 Tryd.f76 (A76 a0) [] call icall again = T76 call (fun l0 i1 i2 => again (tdOf Tryd.f76 0) (K76_0 l0 i1 i2)) a0 := by kernel_rfl
def L76 (call : FuncId → Fun) : Nat → (List V → Int → Int → Option (V × List Ob))
 | 0 => fun _ _ _ => none
 | n + 1 => T76_0 call (L76 call n)
theorem R76 (call : FuncId → Fun) (icall : ICall (V × List Ob)) : ∀ n, (∀ (l0 : List V) (i1 : Int) (i2 : Int), RN 76 Tryd.f76 [] call icall n (tdOf Tryd.f76 0) (K76_0 l0 i1 i2) = (L76 call n) l0 i1 i2)
  | 0 => fun l0 i1 i2 => rfl
  | n + 1 => by
    have ih := R76 call icall n
    exact fun l0 i1 i2 => (S76_0 call icall (RN 76 Tryd.f76 [] call icall n) l0 i1 i2).trans (by rw [show (fun l0 i1 i2 => RN 76 Tryd.f76 [] call icall n (tdOf Tryd.f76 0) (K76_0 l0 i1 i2)) = (L76 call n) from (funext fun l0 => funext fun i1 => funext fun i2 => ih l0 i1 i2)]; rfl)
theorem C76 (k : Nat) (a0 : List V) : callN cfg (k + 1) 76 (A76 a0) [] = T76 (callN cfg k) (L76 (callN cfg k) k) a0 := by
 have ih := R76 (callN cfg k) (icallN cfg (callN cfg k) 20) k
 refine (show callN cfg (k + 1) 76 (A76 a0) [] = GO 76 Tryd.f76 (A76 a0) [] (callN cfg k) (icallN cfg (callN cfg k) 20) (RN 76 Tryd.f76 [] (callN cfg k) (icallN cfg (callN cfg k) 20) k) by kernel_rfl).trans ((E76 _ _ _ a0).trans ?_)
 rw [show (fun l0 i1 i2 => RN 76 Tryd.f76 [] (callN cfg k) (icallN cfg (callN cfg k) 20) k (tdOf Tryd.f76 0) (K76_0 l0 i1 i2)) = (L76 (callN cfg k) k) from (funext fun l0 => funext fun i1 => funext fun i2 => ih l0 i1 i2)]
theorem M76 (a0 : List V) {r : V × List Ob} (h : Evt (fun k n => T76 (callN cfg k) (L76 (callN cfg k) n) a0) r) : Ret 76 [V.lst 104 false a0, V.clo (Fn.func 77) [] []] [] r := ret_mk (g := fun k n => T76 (callN cfg k) (L76 (callN cfg k) n) a0) (fun k => C76 k a0) h
theorem N76_0 (l0 : List V) (i1 : Int) (i2 : Int) {r : V × List Ob} (h : Evt (fun k n => T76_0 (callN cfg k) (L76 (callN cfg k) n) l0 i1 i2) r) : Evt (fun k n => (L76 (callN cfg k) n) l0 i1 i2) r := evt_step (fun k n => rfl) h
def T77 (call : FuncId → Fun) (a0 : Int) (a1 : Int) (a2 : Int) : Option (V × List Ob) :=
 some ((V.bool (a0 == a1)), [])
def A77 (a0 : Int) (a1 : Int) (a2 : Int) : List V := [V.agg [V.int IntKind.i64 a0, V.int IntKind.i64 a1, V.int IntKind.i64 a2]]
theorem E77 (a0 : Int) (a1 : Int) (a2 : Int) : GO 77 Tryd.f77 (A77 a0 a1 a2) [] call icall again = T77 call a0 a1 a2 := by kernel_rfl
theorem C77 (k : Nat) (a0 : Int) (a1 : Int) (a2 : Int) : callN cfg (k + 1) 77 (A77 a0 a1 a2) [] = T77 (callN cfg k) a0 a1 a2 :=
 (show callN cfg (k + 1) 77 (A77 a0 a1 a2) [] = GO 77 Tryd.f77 (A77 a0 a1 a2) [] (callN cfg k) (icallN cfg (callN cfg k) 20) (RN 77 Tryd.f77 [] (callN cfg k) (icallN cfg (callN cfg k) 20) k) by kernel_rfl).trans (E77 _ _ _ a0 a1 a2)
theorem M77 (a0 : Int) (a1 : Int) (a2 : Int) {r : V × List Ob} (h : Evt (fun k n => T77 (callN cfg k) a0 a1 a2) r) : Ret 77 [V.agg [V.int IntKind.i64 a0, V.int IntKind.i64 a1, V.int IntKind.i64 a2]] [] r := ret_mk (g := fun k n => T77 (callN cfg k) a0 a1 a2) (fun k => C77 k a0 a1 a2) h
def T88_0 (call : FuncId → Fun) (ag0 : List V → Int → Int → List UInt8 → Option (V × List Ob)) (l0 : List V) (i1 : Int) (i2 : Int) (s3 : List UInt8) : Option (V × List Ob) :=
 if (decide (i2 < i1)) = true then
 chk (decide (0 ≤ i2)) (chk (decide (i2 < ((length l0 : Nat) : Int))) (Option.bind (call 89 [(V.agg [(V.str (getS (headD (V.cells (getD l0 (Int.toNat i2) V.bot)) V.bot))), (V.int .i64 (getI (headD (tail (V.cells (getD l0 (Int.toNat i2) V.bot))) V.bot))), (V.int .i64 (getI (headD (tail (tail (V.cells (getD l0 (Int.toNat i2) V.bot)))) V.bot))), (V.int .i64 (getI (headD (tail (tail (tail (V.cells (getD l0 (Int.toNat i2) V.bot))))) V.bot)))]), (V.ref 0 0)] [(Ob.cells [(V.str s3)])]) fun z0 =>
 if (getB z0.1) = true then
 some ((V.int .i64 i2), [(Ob.cells [(V.str (getS (headD (Ob.getC (headD z0.2 Ob.dead)) V.bot)))])])
 else
 (ag0 (l0) (i1) ((IntKind.wrap .i64 (i2 + (1 : Int)))) ((getS (headD (Ob.getC (headD z0.2 Ob.dead)) V.bot))))))
 else
 some ((V.int .i64 (-1 : Int)), [(Ob.cells [(V.str s3)])])
def T88 (call : FuncId → Fun) (ag0 : List V → Int → Int → List UInt8 → Option (V × List Ob)) (a0 : List V) (a1 : List UInt8) : Option (V × List Ob) :=
 (ag0 (a0) (((length a0 : Nat) : Int)) ((0 : Int)) (a1))
def O88 (a1 : List UInt8) : List Ob := [Ob.cells [V.str a1]]
def A88 (a0 : List V) : List V := [V.lst 109 false a0, V.clo (Fn.func 89) [] [V.ref 0 0]]
def K88_0 (l0 : List V) (i1 : Int) (i2 : Int) (s3 : List UInt8) : St := ⟨[(V.lst 109 false l0), (V.clo (Fn.func 89) [] [(V.ref 0 0)]), V.bot, V.bot, V.bot, V.bot, V.bot, (V.int IntKind.i64 i1), (V.int IntKind.i64 i2)] ++ List.replicate 10 V.bot, [(Ob.cells [(V.str s3)])]⟩
theorem S88_0 (a1 : List UInt8) (l0 : List V) (i1 : Int) (i2 : Int) (s3 : List UInt8) :
 RM 88 Tryd.f88 (O88 a1) call icall again (tdOf Tryd.f88 0) (K88_0 l0 i1 i2 s3) = T88_0 call (fun l0 i1 i2 s3 => again (tdOf Tryd.f88 0) (K88_0 l0 i1 i2 s3)) l0 i1 i2 s3 := by kernel_rfl
theorem E88 (a0 : List V) (a1 : List UInt8) : GO 88 Tryd.f88 (A88 a0) (O88 a1) call icall again = T88 call (fun l0 i1 i2 s3 => again (tdOf Tryd.f88 0) (K88_0 l0 i1 i2 s3)) a0 a1 := by kernel_rfl
def L88 (call : FuncId → Fun) : Nat → (List V → Int → Int → List UInt8 → Option (V × List Ob))
 | 0 => fun _ _ _ _ => none
 | n + 1 => T88_0 call (L88 call n)
theorem R88 (call : FuncId → Fun) (icall : ICall (V × List Ob)) (a1 : List UInt8) : ∀ n, (∀ (l0 : List V) (i1 : Int) (i2 : Int) (s3 : List UInt8), RN 88 Tryd.f88 (O88 a1) call icall n (tdOf Tryd.f88 0) (K88_0 l0 i1 i2 s3) = (L88 call n) l0 i1 i2 s3)
  | 0 => fun l0 i1 i2 s3 => rfl
  | n + 1 => by
    have ih := R88 call icall a1 n
    exact fun l0 i1 i2 s3 => (S88_0 call icall (RN 88 Tryd.f88 (O88 a1) call icall n) a1 l0 i1 i2 s3).trans (by rw [show (fun l0 i1 i2 s3 => RN 88 Tryd.f88 (O88 a1) call icall n (tdOf Tryd.f88 0) (K88_0 l0 i1 i2 s3)) = (L88 call n) from (funext fun l0 => funext fun i1 => funext fun i2 => funext fun s3 => ih l0 i1 i2 s3)]; rfl)
theorem C88 (k : Nat) (a0 : List V) (a1 : List UInt8) : callN cfg (k + 1) 88 (A88 a0) (O88 a1) = T88 (callN cfg k) (L88 (callN cfg k) k) a0 a1 := by
 have ih := R88 (callN cfg k) (icallN cfg (callN cfg k) 20) a1 k
 refine (show callN cfg (k + 1) 88 (A88 a0) (O88 a1) = GO 88 Tryd.f88 (A88 a0) (O88 a1) (callN cfg k) (icallN cfg (callN cfg k) 20) (RN 88 Tryd.f88 (O88 a1) (callN cfg k) (icallN cfg (callN cfg k) 20) k) by kernel_rfl).trans ((E88 _ _ _ a0 a1).trans ?_)
 rw [show (fun l0 i1 i2 s3 => RN 88 Tryd.f88 (O88 a1) (callN cfg k) (icallN cfg (callN cfg k) 20) k (tdOf Tryd.f88 0) (K88_0 l0 i1 i2 s3)) = (L88 (callN cfg k) k) from (funext fun l0 => funext fun i1 => funext fun i2 => funext fun s3 => ih l0 i1 i2 s3)]
theorem M88 (a0 : List V) (a1 : List UInt8) {r : V × List Ob} (h : Evt (fun k n => T88 (callN cfg k) (L88 (callN cfg k) n) a0 a1) r) : Ret 88 [V.lst 109 false a0, V.clo (Fn.func 89) [] [V.ref 0 0]] [Ob.cells [V.str a1]] r := ret_mk (g := fun k n => T88 (callN cfg k) (L88 (callN cfg k) n) a0 a1) (fun k => C88 k a0 a1) h
theorem N88_0 (l0 : List V) (i1 : Int) (i2 : Int) (s3 : List UInt8) {r : V × List Ob} (h : Evt (fun k n => T88_0 (callN cfg k) (L88 (callN cfg k) n) l0 i1 i2 s3) r) : Evt (fun k n => (L88 (callN cfg k) n) l0 i1 i2 s3) r := evt_step (fun k n => rfl) h
def T89 (call : FuncId → Fun) (a0 : List UInt8) (a1 : Int) (a2 : Int) (a3 : Int) (a4 : List UInt8) : Option (V × List Ob) :=
 Option.bind (call 62 [(V.str a0), (V.str a4)] []) fun z0 =>
 some ((V.bool (getB z0.1)), [(Ob.cells [(V.str a4)])])
def O89 (a4 : List UInt8) : List Ob := [Ob.cells [V.str a4]]
def A89 (a0 : List UInt8) (a1 : Int) (a2 : Int) (a3 : Int) : List V := [V.agg [V.str a0, V.int IntKind.i64 a1, V.int IntKind.i64 a2, V.int IntKind.i64 a3], V.ref 0 0]
theorem E89 (a0 : List UInt8) (a1 : Int) (a2 : Int) (a3 : Int) (a4 : List UInt8) : GO 89 Tryd.f89 (A89 a0 a1 a2 a3) (O89 a4) call icall again = T89 call a0 a1 a2 a3 a4 := by kernel_rfl
theorem C89 (k : Nat) (a0 : List UInt8) (a1 : Int) (a2 : Int) (a3 : Int) (a4 : List UInt8) : callN cfg (k + 1) 89 (A89 a0 a1 a2 a3) (O89 a4) = T89 (callN cfg k) a0 a1 a2 a3 a4 :=
 (show callN cfg (k + 1) 89 (A89 a0 a1 a2 a3) (O89 a4) = GO 89 Tryd.f89 (A89 a0 a1 a2 a3) (O89 a4) (callN cfg k) (icallN cfg (callN cfg k) 20) (RN 89 Tryd.f89 (O89 a4) (callN cfg k) (icallN cfg (callN cfg k) 20) k) by kernel_rfl).trans (E89 _ _ _ a0 a1 a2 a3 a4)
theorem M89 (a0 : List UInt8) (a1 : Int) (a2 : Int) (a3 : Int) (a4 : List UInt8) {r : V × List Ob} (h : Evt (fun k n => T89 (callN cfg k) a0 a1 a2 a3 a4) r) : Ret 89 [V.agg [V.str a0, V.int IntKind.i64 a1, V.int IntKind.i64 a2, V.int IntKind.i64 a3], V.ref 0 0] [Ob.cells [V.str a4]] r := ret_mk (g := fun k n => T89 (callN cfg k) a0 a1 a2 a3 a4) (fun k => C89 k a0 a1 a2 a3 a4) h
def T91 (call : FuncId → Fun) (a0 : List V) (a1 : List UInt8) : Option (V × List Ob) :=
 Option.bind (call 108 [(V.ref 0 0)] [(Ob.cells [(V.opt 0 0), (V.lst 5 true a0)])]) fun z0 =>
 chk (appOkS (getL (headD (tail (Ob.getC (headD z0.2 Ob.dead))) V.bot)) a1 2) (some ((V.tup [(V.int .i64 ((length a1 : Nat) : Int)), (V.raw (Value.nilIface))]), [(Ob.cells [(V.opt 0 0), (V.lst 5 true ((getL (headD (tail (Ob.getC (headD z0.2 Ob.dead))) V.bot)) ++ (ofBytes a1)))])]))
def O91 (a0 : List V) : List Ob := [Ob.cells [V.opt 0 0, V.lst 5 true a0]]
def A91 (a1 : List UInt8) : List V := [V.ref 0 0, V.str a1]
theorem E91 (a0 : List V) (a1 : List UInt8) : GO 91 Tryd.f91 (A91 a1) (O91 a0) call icall again = T91 call a0 a1 := by kernel_rfl
theorem C91 (k : Nat) (a0 : List V) (a1 : List UInt8) : callN cfg (k + 1) 91 (A91 a1) (O91 a0) = T91 (callN cfg k) a0 a1 :=
 (show callN cfg (k + 1) 91 (A91 a1) (O91 a0) = GO 91 Tryd.f91 (A91 a1) (O91 a0) (callN cfg k) (icallN cfg (callN cfg k) 20) (RN 91 Tryd.f91 (O91 a0) (callN cfg k) (icallN cfg (callN cfg k) 20) k) by kernel_rfl).trans (E91 _ _ _ a0 a1)
theorem M91 (a0 : List V) (a1 : List UInt8) {r : V × List Ob} (h : Evt (fun k n => T91 (callN cfg k) a0 a1) r) : Ret 91 [V.ref 0 0, V.str a1] [Ob.cells [V.opt 0 0, V.lst 5 true a0]] r := ret_mk (g := fun k n => T91 (callN cfg k) a0 a1) (fun k => C91 k a0 a1) h
def T66_0 (call : FuncId → Fun) (ag0 : List V → List V → Int → Int → List UInt8 → Int → Int → Int → List V → Option (V × List Ob)) (l0 : List V) (l1 : List V) (i2 : Int) (i3 : Int) (s4 : List UInt8) (i5 : Int) (i6 : Int) (i7 : Int) (l8 : List V) : Option (V × List Ob) :=
 if (decide (i3 < i2)) = true then
 chk (decide (0 ≤ i3)) (chk (decide (i3 < ((length l1 : Nat) : Int))) (Option.bind (call 57 [(V.lst 5 false l0), (V.agg [(V.int .i64 (getI (headD (V.cells (getD l1 (Int.toNat i3) V.bot)) V.bot))), (V.int .i64 (getI (headD (tail (V.cells (getD l1 (Int.toNat i3) V.bot))) V.bot))), (V.int .i64 (getI (headD (tail (tail (V.cells (getD l1 (Int.toNat i3) V.bot)))) V.bot)))])] []) fun z0 =>
 Option.bind (call 91 [(V.ref 0 0), (V.str (getS z0.1))] [(Ob.cells [(V.opt 0 0), (V.lst 5 true l8)])]) fun z1 =>
 (ag0 (l0) (l1) (i2) ((IntKind.wrap .i64 (i3 + (1 : Int)))) (s4) (i5) (i6) (i7) ((getL (headD (tail (Ob.getC (headD z1.2 Ob.dead))) V.bot))))))
 else
 Option.bind (call 92 [(V.ref 0 0)] [(Ob.cells [(V.opt 0 0), (V.lst 5 true l8)])]) fun z0 =>
 Option.bind (call 87 [(V.str (getS z0.1))] []) fun z1 =>
 some ((V.str (getS z1.1)), [])
def T66 (call : FuncId → Fun) (ag0 : List V → List V → Int → Int → List UInt8 → Int → Int → Int → List V → Option (V × List Ob)) (a0 : List V) (a1 : List UInt8) (a2 : Int) (a3 : Int) (a4 : Int) : Option (V × List Ob) :=
 Option.bind (call 55 [(V.lst 5 false a0), (V.agg [(V.int .i64 a3), (V.int .i64 a4)])] []) fun z0 =>
 (ag0 (a0) ((getL z0.1)) (((length (getL z0.1) : Nat) : Int)) ((0 : Int)) (a1) (a2) (a3) (a4) ([]))
def A66 (a0 : List V) (a1 : List UInt8) (a2 : Int) (a3 : Int) (a4 : Int) : List V := [V.lst 5 false a0, V.agg [V.str a1, V.int IntKind.i64 a2, V.int IntKind.i64 a3, V.int IntKind.i64 a4]]
def K66_0 (l0 : List V) (l1 : List V) (i2 : Int) (i3 : Int) (s4 : List UInt8) (i5 : Int) (i6 : Int) (i7 : Int) (l8 : List V) : St := ⟨[(V.lst 5 false l0), V.bot, V.bot, V.bot, V.bot, (V.ref 1 0), V.bot, V.bot, V.bot, V.bot, V.bot, V.bot, V.bot, V.bot, (V.lst 104 false l1), (V.int IntKind.i64 i2), (V.int IntKind.i64 i3)] ++ List.replicate 10 V.bot, [(Ob.cells [(V.str s4), (V.int IntKind.i64 i5), (V.int IntKind.i64 i6), (V.int IntKind.i64 i7)]), (Ob.cells [(V.opt 1 0), (V.lst 5 true l8)])]⟩
theorem S66_0 (l0 : List V) (l1 : List V) (i2 : Int) (i3 : Int) (s4 : List UInt8) (i5 : Int) (i6 : Int) (i7 : Int) (l8 : List V) :
 RM 66 Tryd.f66 [] call icall again (tdOf Tryd.f66 0) (K66_0 l0 l1 i2 i3 s4 i5 i6 i7 l8) = T66_0 call (fun l0 l1 i2 i3 s4 i5 i6 i7 l8 => again (tdOf Tryd.f66 0) (K66_0 l0 l1 i2 i3 s4 i5 i6 i7 l8)) l0 l1 i2 i3 s4 i5 i6 i7 l8 := by kernel_rfl
theorem E66 (a0 : List V) (a1 : List UInt8) (a2 : Int) (a3 : Int) (a4 : Int) : GO 66 Tryd.f66 (A66 a0 a1 a2 a3 a4) [] call icall again = T66 call (fun l0 l1 i2 i3 s4 i5 i6 i7 l8 => again (tdOf Tryd.f66 0) (K66_0 l0 l1 i2 i3 s4 i5 i6 i7 l8)) a0 a1 a2 a3 a4 := by kernel_rfl
def L66 (call : FuncId → Fun) : Nat → (List V → List V → Int → Int → List UInt8 → Int → Int → Int → List V → Option (V × List Ob))
 | 0 => fun _ _ _ _ _ _ _ _ _ => none
 | n + 1 => T66_0 call (L66 call n)
theorem R66 (call : FuncId → Fun) (icall : ICall (V × List Ob)) : ∀ n, (∀ (l0 : List V) (l1 : List V) (i2 : Int) (i3 : Int) (s4 : List UInt8) (i5 : Int) (i6 : Int) (i7 : Int) (l8 : List V), RN 66 Tryd.f66 [] call icall n (tdOf Tryd.f66 0) (K66_0 l0 l1 i2 i3 s4 i5 i6 i7 l8) = (L66 call n) l0 l1 i2 i3 s4 i5 i6 i7 l8)
  | 0 => fun l0 l1 i2 i3 s4 i5 i6 i7 l8 => rfl
  | n + 1 => by
    have ih := R66 call icall n
    exact fun l0 l1 i2 i3 s4 i5 i6 i7 l8 => (S66_0 call icall (RN 66 Tryd.f66 [] call icall n) l0 l1 i2 i3 s4 i5 i6 i7 l8).trans (by rw [show (fun l0 l1 i2 i3 s4 i5 i6 i7 l8 => RN 66 Tryd.f66 [] call icall n (tdOf Tryd.f66 0) (K66_0 l0 l1 i2 i3 s4 i5 i6 i7 l8)) = (L66 call n) from (funext fun l0 => funext fun l1 => funext fun i2 => funext fun i3 => funext fun s4 => funext fun i5 => funext fun i6 => funext fun i7 => funext fun l8 => ih l0 l1 i2 i3 s4 i5 i6 i7 l8)]; rfl)
theorem C66 (k : Nat) (a0 : List V) (a1 : List UInt8) (a2 : Int) (a3 : Int) (a4 : Int) : callN cfg (k + 1) 66 (A66 a0 a1 a2 a3 a4) [] = T66 (callN cfg k) (L66 (callN cfg k) k) a0 a1 a2 a3 a4 := by
 have ih := R66 (callN cfg k) (icallN cfg (callN cfg k) 20) k
 refine (show callN cfg (k + 1) 66 (A66 a0 a1 a2 a3 a4) [] = GO 66 Tryd.f66 (A66 a0 a1 a2 a3 a4) [] (callN cfg k) (icallN cfg (callN cfg k) 20) (RN 66 Tryd.f66 [] (callN cfg k) (icallN cfg (callN cfg k) 20) k) by kernel_rfl).trans ((E66 _ _ _ a0 a1 a2 a3 a4).trans ?_)
 rw [show (fun l0 l1 i2 i3 s4 i5 i6 i7 l8 => RN 66 Tryd.f66 [] (callN cfg k) (icallN cfg (callN cfg k) 20) k (tdOf Tryd.f66 0) (K66_0 l0 l1 i2 i3 s4 i5 i6 i7 l8)) = (L66 (callN cfg k) k) from (funext fun l0 => funext fun l1 => funext fun i2 => funext fun i3 => funext fun s4 => funext fun i5 => funext fun i6 => funext fun i7 => funext fun l8 => ih l0 l1 i2 i3 s4 i5 i6 i7 l8)]
theorem M66 (a0 : List V) (a1 : List UInt8) (a2 : Int) (a3 : Int) (a4 : Int) {r : V × List Ob} (h : Evt (fun k n => T66 (callN cfg k) (L66 (callN cfg k) n) a0 a1 a2 a3 a4) r) : Ret 66 [V.lst 5 false a0, V.agg [V.str a1, V.int IntKind.i64 a2, V.int IntKind.i64 a3, V.int IntKind.i64 a4]] [] r := ret_mk (g := fun k n => T66 (callN cfg k) (L66 (callN cfg k) n) a0 a1 a2 a3 a4) (fun k => C66 k a0 a1 a2 a3 a4) h
theorem N66_0 (l0 : List V) (l1 : List V) (i2 : Int) (i3 : Int) (s4 : List UInt8) (i5 : Int) (i6 : Int) (i7 : Int) (l8 : List V) {r : V × List Ob} (h : Evt (fun k n => T66_0 (callN cfg k) (L66 (callN cfg k) n) l0 l1 i2 i3 s4 i5 i6 i7 l8) r) : Evt (fun k n => (L66 (callN cfg k) n) l0 l1 i2 i3 s4 i5 i6 i7 l8) r := evt_step (fun k n => rfl) h
def T64 (call : FuncId → Fun) (a0 : List V) (a1 : List UInt8) : Option (V × List Ob) :=
 Option.bind (call 88 [(V.lst 109 false a0), (V.clo (Fn.func 89) [] [(V.ref 0 0)])] [(Ob.cells [(V.str a1)])]) fun z0 =>
 if (decide ((getI z0.1) < (0 : Int))) = true then
 some ((V.tup [(V.agg [(V.str []), (V.int .i64 0), (V.int .i64 0), (V.int .i64 0)]), (V.bool false)]), [])
 else
 chk (decide (0 ≤ (getI z0.1))) (chk (decide ((getI z0.1) < ((length a0 : Nat) : Int))) (some ((V.tup [(V.agg [(V.str (getS (headD (V.cells (getD a0 (Int.toNat (getI z0.1)) V.bot)) V.bot))), (V.int .i64 (getI (headD (tail (V.cells (getD a0 (Int.toNat (getI z0.1)) V.bot))) V.bot))), (V.int .i64 (getI (headD (tail (tail (V.cells (getD a0 (Int.toNat (getI z0.1)) V.bot)))) V.bot))), (V.int .i64 (getI (headD (tail (tail (tail (V.cells (getD a0 (Int.toNat (getI z0.1)) V.bot))))) V.bot)))]), (V.bool true)]), [])))
def A64 (a0 : List V) (a1 : List UInt8) : List V := [V.lst 109 false a0, V.str a1]
theorem E64 (a0 : List V) (a1 : List UInt8) : GO 64 Tryd.f64 (A64 a0 a1) [] call icall again = T64 call a0 a1 := by kernel_rfl
theorem C64 (k : Nat) (a0 : List V) (a1 : List UInt8) : callN cfg (k + 1) 64 (A64 a0 a1) [] = T64 (callN cfg k) a0 a1 :=
 (show callN cfg (k + 1) 64 (A64 a0 a1) [] = GO 64 Tryd.f64 (A64 a0 a1) [] (callN cfg k) (icallN cfg (callN cfg k) 20) (RN 64 Tryd.f64 [] (callN cfg k) (icallN cfg (callN cfg k) 20) k) by kernel_rfl).trans (E64 _ _ _ a0 a1)
theorem M64 (a0 : List V) (a1 : List UInt8) {r : V × List Ob} (h : Evt (fun k n => T64 (callN cfg k) a0 a1) r) : Ret 64 [V.lst 109 false a0, V.str a1] [] r := ret_mk (g := fun k n => T64 (callN cfg k) a0 a1) (fun k => C64 k a0 a1) h
def T61 (call : FuncId → Fun) (a0 : List V) (a1 : List V) (a2 : List UInt8) : Option (V × List Ob) :=
 Option.bind (call 64 [(V.lst 109 false a1), (V.str a2)] []) fun z0 =>
 if (!(getB (headD (tail (getT z0.1)) V.bot))) = true then
 some ((V.str []), [])
 else
 Option.bind (call 66 [(V.lst 5 false a0), (V.agg [(V.str (getS (headD (V.cells (headD (getT z0.1) V.bot)) V.bot))), (V.int .i64 (getI (headD (tail (V.cells (headD (getT z0.1) V.bot))) V.bot))), (V.int .i64 (getI (headD (tail (tail (V.cells (headD (getT z0.1) V.bot)))) V.bot))), (V.int .i64 (getI (headD (tail (tail (tail (V.cells (headD (getT z0.1) V.bot))))) V.bot)))])] []) fun z1 =>
 some ((V.str (getS z1.1)), [])
def A61 (a0 : List V) (a1 : List V) (a2 : List UInt8) : List V := [V.lst 5 false a0, V.lst 109 false a1, V.str a2]
theorem E61 (a0 : List V) (a1 : List V) (a2 : List UInt8) : GO 61 Tryd.f61 (A61 a0 a1 a2) [] call icall again = T61 call a0 a1 a2 := by kernel_rfl
theorem C61 (k : Nat) (a0 : List V) (a1 : List V) (a2 : List UInt8) : callN cfg (k + 1) 61 (A61 a0 a1 a2) [] = T61 (callN cfg k) a0 a1 a2 :=
 (show callN cfg (k + 1) 61 (A61 a0 a1 a2) [] = GO 61 Tryd.f61 (A61 a0 a1 a2) [] (callN cfg k) (icallN cfg (callN cfg k) 20) (RN 61 Tryd.f61 [] (callN cfg k) (icallN cfg (callN cfg k) 20) k) by kernel_rfl).trans (E61 _ _ _ a0 a1 a2)
theorem M61 (a0 : List V) (a1 : List V) (a2 : List UInt8) {r : V × List Ob} (h : Evt (fun k n => T61 (callN cfg k) a0 a1 a2) r) : Ret 61 [V.lst 5 false a0, V.lst 109 false a1, V.str a2] [] r := ret_mk (g := fun k n => T61 (callN cfg k) a0 a1 a2) (fun k => C61 k a0 a1 a2) h
def T39_0 (call : FuncId → Fun) (ag0 : List V → Int → List V → Bool → List V → Int → Int → Option (V × List Ob)) (l0 : List V) (i1 : Int) (o2 : List V) (b3 : Bool) (l4 : List V) (i5 : Int) (i6 : Int) : Option (V × List Ob) :=
 if (decide (i6 < i5)) = true then
 chk (decide (0 ≤ i6)) (chk (decide (i6 < ((length l4 : Nat) : Int))) (Option.bind (call 57 [(V.lst 5 false l0), (V.agg [(V.int .i64 (getI (headD (V.cells (getD l4 (Int.toNat i6) V.bot)) V.bot))), (V.int .i64 (getI (headD (tail (V.cells (getD l4 (Int.toNat i6) V.bot))) V.bot))), (V.int .i64 (getI (headD (tail (tail (V.cells (getD l4 (Int.toNat i6) V.bot)))) V.bot)))])] []) fun z0 =>
 Option.bind (call 58 [(V.str (getS z0.1))] []) fun z1 =>
 if (getB z1.1) = true then
 if b3 = true then
 chk (decide (0 ≤ (IntKind.wrap .i64 (((length o2 : Nat) : Int) - (1 : Int))))) (chk (decide ((IntKind.wrap .i64 (((length o2 : Nat) : Int) - (1 : Int))) < ((length o2 : Nat) : Int))) ((ag0 (l0) (i1) ((List.set o2 (Int.toNat (IntKind.wrap .i64 (((length o2 : Nat) : Int) - (1 : Int)))) (V.agg [(V.str (getS (headD (V.cells (getD o2 (Int.toNat (IntKind.wrap .i64 (((length o2 : Nat) : Int) - (1 : Int)))) V.bot)) V.bot))), (V.int .i64 (getI (headD (tail (V.cells (getD o2 (Int.toNat (IntKind.wrap .i64 (((length o2 : Nat) : Int) - (1 : Int)))) V.bot))) V.bot))), (V.int .i64 (getI (headD (tail (tail (V.cells (getD o2 (Int.toNat (IntKind.wrap .i64 (((length o2 : Nat) : Int) - (1 : Int)))) V.bot)))) V.bot))), (V.int .i64 (getI (headD (tail (tail (V.cells (getD l4 (Int.toNat i6) V.bot)))) V.bot)))]))) (b3) (l4) (i5) ((IntKind.wrap .i64 (i6 + (1 : Int)))))))
 else
 (ag0 (l0) (i1) (o2) (b3) (l4) (i5) ((IntKind.wrap .i64 (i6 + (1 : Int)))))
 else
 Option.bind (call 59 [(V.str (getS z0.1))] []) fun z2 =>
 if (getB (headD (tail (tail (getT z2.1))) V.bot)) = true then
 chk (appOk o2 [(V.agg [(V.str (getS (headD (getT z2.1) V.bot))), (V.int .i64 (getI (headD (V.cells (getD l4 (Int.toNat i6) V.bot)) V.bot))), (V.int .i64 (IntKind.wrap .i64 ((getI (headD (V.cells (getD l4 (Int.toNat i6) V.bot)) V.bot)) + (getI (headD (tail (getT z2.1)) V.bot))))), (V.int .i64 (getI (headD (tail (tail (V.cells (getD l4 (Int.toNat i6) V.bot)))) V.bot)))])] 41) ((ag0 (l0) (i1) ((o2 ++ [(V.agg [(V.str (getS (headD (getT z2.1) V.bot))), (V.int .i64 (getI (headD (V.cells (getD l4 (Int.toNat i6) V.bot)) V.bot))), (V.int .i64 (IntKind.wrap .i64 ((getI (headD (V.cells (getD l4 (Int.toNat i6) V.bot)) V.bot)) + (getI (headD (tail (getT z2.1)) V.bot))))), (V.int .i64 (getI (headD (tail (tail (V.cells (getD l4 (Int.toNat i6) V.bot)))) V.bot)))])])) ((getB (headD (tail (tail (getT z2.1))) V.bot))) (l4) (i5) ((IntKind.wrap .i64 (i6 + (1 : Int))))))
 else
 (ag0 (l0) (i1) (o2) ((getB (headD (tail (tail (getT z2.1))) V.bot))) (l4) (i5) ((IntKind.wrap .i64 (i6 + (1 : Int)))))))
 else
 some ((V.tup [(V.lst 109 false o2), (V.int .i64 i1)]), [])
def T39 (call : FuncId → Fun) (ag0 : List V → Int → List V → Bool → List V → Int → Int → Option (V × List Ob)) (a0 : List V) (a1 : Int) (a2 : Int) : Option (V × List Ob) :=
 Option.bind (call 55 [(V.lst 5 false a0), (V.agg [(V.int .i64 a1), (V.int .i64 a2)])] []) fun z0 =>
 if (((length (getL z0.1) : Nat) : Int) == (0 : Int)) = true then
 some ((V.tup [(V.lst 109 false []), (V.int .i64 a1)]), [])
 else
 chk (decide (0 ≤ (IntKind.wrap .i64 (((length (getL z0.1) : Nat) : Int) - (1 : Int))))) (chk (decide ((IntKind.wrap .i64 (((length (getL z0.1) : Nat) : Int) - (1 : Int))) < ((length (getL z0.1) : Nat) : Int))) (Option.bind (call 56 [(V.lst 104 false (getL z0.1))] []) fun z1 =>
 if (decide ((getI z1.1) ≥ (0 : Int))) = true then
 chk (decide (0 ≤ (getI z1.1))) (chk (decide ((getI z1.1) < ((length (getL z0.1) : Nat) : Int))) (chk (decide (0 ≤ (getI z1.1))) (chk (decide ((getI z1.1) ≤ ((length (getL z0.1) : Nat) : Int))) (chk (decide (0 ≤ (0 : Int))) (chk (decide ((0 : Int) ≤ (getI z1.1))) ((ag0 (a0) ((getI (headD (tail (tail (V.cells (getD (getL z0.1) (Int.toNat (getI z1.1)) V.bot)))) V.bot))) ([]) (false) ((drop (Int.toNat (0 : Int)) (take (Int.toNat (getI z1.1)) (getL z0.1)))) (((length (drop (Int.toNat (0 : Int)) (take (Int.toNat (getI z1.1)) (getL z0.1))) : Nat) : Int)) ((0 : Int)))))))))
 else
 (ag0 (a0) ((getI (headD (tail (tail (V.cells (getD (getL z0.1) (Int.toNat (IntKind.wrap .i64 (((length (getL z0.1) : Nat) : Int) - (1 : Int)))) V.bot)))) V.bot))) ([]) (false) ((getL z0.1)) (((length (getL z0.1) : Nat) : Int)) ((0 : Int)))))
def A39 (a0 : List V) (a1 : Int) (a2 : Int) : List V := [V.lst 5 false a0, V.agg [V.int IntKind.i64 a1, V.int IntKind.i64 a2]]
def K39_0 (l0 : List V) (i1 : Int) (o2 : List V) (b3 : Bool) (l4 : List V) (i5 : Int) (i6 : Int) : St := ⟨[(V.lst 5 false l0), V.bot, V.bot, V.bot, V.bot, V.bot, V.bot, (V.int IntKind.i64 i1), V.bot, (V.own 109 o2), (V.bool b3), V.bot, V.bot, V.bot, V.bot, V.bot, V.bot, V.bot, V.bot, V.bot, V.bot, V.bot, V.bot, V.bot, V.bot, V.bot, V.bot, V.bot, V.bot, V.bot, V.bot, V.bot, V.bot, V.bot, V.bot, V.bot, V.bot, V.bot, V.bot, V.bot, V.bot, V.bot, V.bot, V.bot, (V.lst 104 false l4), (V.int IntKind.i64 i5), (V.int IntKind.i64 i6)] ++ List.replicate 41 V.bot, []⟩
theorem S39_0 (l0 : List V) (i1 : Int) (o2 : List V) (b3 : Bool) (l4 : List V) (i5 : Int) (i6 : Int) :
 RM 39 Tryd.f39 [] call icall again (tdOf Tryd.f39 0) (K39_0 l0 i1 o2 b3 l4 i5 i6) = T39_0 call (fun l0 i1 o2 b3 l4 i5 i6 => again (tdOf Tryd.f39 0) (K39_0 l0 i1 o2 b3 l4 i5 i6)) l0 i1 o2 b3 l4 i5 i6 := by kernel_rfl
theorem E39 (a0 : List V) (a1 : Int) (a2 : Int) : GO 39 Tryd.f39 (A39 a0 a1 a2) [] call icall again = T39 call (fun l0 i1 o2 b3 l4 i5 i6 => again (tdOf Tryd.f39 0) (K39_0 l0 i1 o2 b3 l4 i5 i6)) a0 a1 a2 := by kernel_rfl
def L39 (call : FuncId → Fun) : Nat → (List V → Int → List V → Bool → List V → Int → Int → Option (V × List Ob))
 | 0 => fun _ _ _ _ _ _ _ => none
 | n + 1 => T39_0 call (L39 call n)
theorem R39 (call : FuncId → Fun) (icall : ICall (V × List Ob)) : ∀ n, (∀ (l0 : List V) (i1 : Int) (o2 : List V) (b3 : Bool) (l4 : List V) (i5 : Int) (i6 : Int), RN 39 Tryd.f39 [] call icall n (tdOf Tryd.f39 0) (K39_0 l0 i1 o2 b3 l4 i5 i6) = (L39 call n) l0 i1 o2 b3 l4 i5 i6)
  | 0 => fun l0 i1 o2 b3 l4 i5 i6 => rfl
  | n + 1 => by
    have ih := R39 call icall n
    exact fun l0 i1 o2 b3 l4 i5 i6 => (S39_0 call icall (RN 39 Tryd.f39 [] call icall n) l0 i1 o2 b3 l4 i5 i6).trans (by rw [show (fun l0 i1 o2 b3 l4 i5 i6 => RN 39 Tryd.f39 [] call icall n (tdOf Tryd.f39 0) (K39_0 l0 i1 o2 b3 l4 i5 i6)) = (L39 call n) from (funext fun l0 => funext fun i1 => funext fun o2 => funext fun b3 => funext fun l4 => funext fun i5 => funext fun i6 => ih l0 i1 o2 b3 l4 i5 i6)]; rfl)
theorem C39 (k : Nat) (a0 : List V) (a1 : Int) (a2 : Int) : callN cfg (k + 1) 39 (A39 a0 a1 a2) [] = T39 (callN cfg k) (L39 (callN cfg k) k) a0 a1 a2 := by
 have ih := R39 (callN cfg k) (icallN cfg (callN cfg k) 20) k
 refine (show callN cfg (k + 1) 39 (A39 a0 a1 a2) [] = GO 39 Tryd.f39 (A39 a0 a1 a2) [] (callN cfg k) (icallN cfg (callN cfg k) 20) (RN 39 Tryd.f39 [] (callN cfg k) (icallN cfg (callN cfg k) 20) k) by kernel_rfl).trans ((E39 _ _ _ a0 a1 a2).trans ?_)
 rw [show (fun l0 i1 o2 b3 l4 i5 i6 => RN 39 Tryd.f39 [] (callN cfg k) (icallN cfg (callN cfg k) 20) k (tdOf Tryd.f39 0) (K39_0 l0 i1 o2 b3 l4 i5 i6)) = (L39 (callN cfg k) k) from (funext fun l0 => funext fun i1 => funext fun o2 => funext fun b3 => funext fun l4 => funext fun i5 => funext fun i6 => ih l0 i1 o2 b3 l4 i5 i6)]
theorem M39 (a0 : List V) (a1 : Int) (a2 : Int) {r : V × List Ob} (h : Evt (fun k n => T39 (callN cfg k) (L39 (callN cfg k) n) a0 a1 a2) r) : Ret 39 [V.lst 5 false a0, V.agg [V.int IntKind.i64 a1, V.int IntKind.i64 a2]] [] r := ret_mk (g := fun k n => T39 (callN cfg k) (L39 (callN cfg k) n) a0 a1 a2) (fun k => C39 k a0 a1 a2) h
theorem N39_0 (l0 : List V) (i1 : Int) (o2 : List V) (b3 : Bool) (l4 : List V) (i5 : Int) (i6 : Int) {r : V × List Ob} (h : Evt (fun k n => T39_0 (callN cfg k) (L39 (callN cfg k) n) l0 i1 o2 b3 l4 i5 i6) r) : Evt (fun k n => (L39 (callN cfg k) n) l0 i1 o2 b3 l4 i5 i6) r := evt_step (fun k n => rfl) h
def T63 (call : FuncId → Fun) (a0 : List UInt8) (a1 : List UInt8) : Option (V × List Ob) :=
 Option.bind (if (decide (((length a0 : Nat) : Int) < (IntKind.wrap .i64 ((2 : Int) + ((length a1 : Nat) : Int))))) = false then
 chk (decide (0 ≤ (IntKind.wrap .i64 ((2 : Int) + ((length a1 : Nat) : Int))))) (chk (decide ((IntKind.wrap .i64 ((2 : Int) + ((length a1 : Nat) : Int))) ≤ ((length a0 : Nat) : Int))) (chk (decide (0 ≤ (0 : Int))) (chk (decide ((0 : Int) ≤ (IntKind.wrap .i64 ((2 : Int) + ((length a1 : Nat) : Int))))) (chk (catOk [45, 45] a1) (some (!(sEq (drop (Int.toNat (0 : Int)) (take (Int.toNat (IntKind.wrap .i64 ((2 : Int) + ((length a1 : Nat) : Int)))) a0)) ([45, 45] ++ a1))))))))
 else
 some true) fun y0 =>
 if y0 = true then
 some ((V.tup [(V.bool false), (V.bool false)]), [])
 else
 chk (decide (0 ≤ (IntKind.wrap .i64 ((2 : Int) + ((length a1 : Nat) : Int))))) (chk (decide ((IntKind.wrap .i64 ((2 : Int) + ((length a1 : Nat) : Int))) ≤ ((length a0 : Nat) : Int))) (Option.bind (call 86 [(V.str (drop (Int.toNat (IntKind.wrap .i64 ((2 : Int) + ((length a1 : Nat) : Int)))) a0))] []) fun z1 =>
 if (getB z1.1) = true then
 some ((V.tup [(V.bool true), (V.bool false)]), [])
 else
 if (decide (((length (drop (Int.toNat (IntKind.wrap .i64 ((2 : Int) + ((length a1 : Nat) : Int)))) a0) : Nat) : Int) ≥ (2 : Int))) = true then
 chk (decide (0 ≤ (2 : Int))) (chk (decide ((2 : Int) ≤ ((length (drop (Int.toNat (IntKind.wrap .i64 ((2 : Int) + ((length a1 : Nat) : Int)))) a0) : Nat) : Int))) (chk (decide (0 ≤ (0 : Int))) (chk (decide ((0 : Int) ≤ (2 : Int))) (if (sEq (drop (Int.toNat (0 : Int)) (take (Int.toNat (2 : Int)) (drop (Int.toNat (IntKind.wrap .i64 ((2 : Int) + ((length a1 : Nat) : Int)))) a0))) [45, 45]) = true then
 chk (decide (0 ≤ (2 : Int))) (chk (decide ((2 : Int) ≤ ((length (drop (Int.toNat (IntKind.wrap .i64 ((2 : Int) + ((length a1 : Nat) : Int)))) a0) : Nat) : Int))) (Option.bind (call 86 [(V.str (drop (Int.toNat (2 : Int)) (drop (Int.toNat (IntKind.wrap .i64 ((2 : Int) + ((length a1 : Nat) : Int)))) a0)))] []) fun z2 =>
 if (getB z2.1) = true then
 some ((V.tup [(V.bool true), (V.bool true)]), [])
 else
 some ((V.tup [(V.bool false), (V.bool false)]), [])))
 else
 some ((V.tup [(V.bool false), (V.bool false)]), [])))))
 else
 some ((V.tup [(V.bool false), (V.bool false)]), [])))
def A63 (a0 : List UInt8) (a1 : List UInt8) : List V := [V.str a0, V.str a1]
theorem E63 (a0 : List UInt8) (a1 : List UInt8) : GO 63 Tryd.f63 (A63 a0 a1) [] call icall again = T63 call a0 a1 := by kernel_rfl
theorem C63 (k : Nat) (a0 : List UInt8) (a1 : List UInt8) : callN cfg (k + 1) 63 (A63 a0 a1) [] = T63 (callN cfg k) a0 a1 :=
 (show callN cfg (k + 1) 63 (A63 a0 a1) [] = GO 63 Tryd.f63 (A63 a0 a1) [] (callN cfg k) (icallN cfg (callN cfg k) 20) (RN 63 Tryd.f63 [] (callN cfg k) (icallN cfg (callN cfg k) 20) k) by kernel_rfl).trans (E63 _ _ _ a0 a1)
theorem M63 (a0 : List UInt8) (a1 : List UInt8) {r : V × List Ob} (h : Evt (fun k n => T63 (callN cfg k) a0 a1) r) : Ret 63 [V.str a0, V.str a1] [] r := ret_mk (g := fun k n => T63 (callN cfg k) a0 a1) (fun k => C63 k a0 a1) h
def T86 (call : FuncId → Fun) (a0 : List UInt8) : Option (V × List Ob) :=
 Option.bind (call 87 [(V.str a0)] []) fun z0 =>
 some ((V.bool (sEq (getS z0.1) [])), [])
def A86 (a0 : List UInt8) : List V := [V.str a0]
theorem E86 (a0 : List UInt8) : GO 86 Tryd.f86 (A86 a0) [] call icall again = T86 call a0 := by kernel_rfl
theorem C86 (k : Nat) (a0 : List UInt8) : callN cfg (k + 1) 86 (A86 a0) [] = T86 (callN cfg k) a0 :=
 (show callN cfg (k + 1) 86 (A86 a0) [] = GO 86 Tryd.f86 (A86 a0) [] (callN cfg k) (icallN cfg (callN cfg k) 20) (RN 86 Tryd.f86 [] (callN cfg k) (icallN cfg (callN cfg k) 20) k) by kernel_rfl).trans (E86 _ _ _ a0)
theorem M86 (a0 : List UInt8) {r : V × List Ob} (h : Evt (fun k n => T86 (callN cfg k) a0) r) : Ret 86 [V.str a0] [] r := ret_mk (g := fun k n => T86 (callN cfg k) a0) (fun k => C86 k a0) h
end Go.Proofs.YtemgbdncidgoiaaDoor
end
section
namespace Go.Proofs.YtemgbdncidgoiaaDoor
open Go.Ev Go
abbrev Ln := Nat × Nat × Nat
def subF (b : Bs) (fr to : Nat) : Bs := (b.take to).drop fr
def lineT (b : Bs) (l : Ln) : Bs := if l.1 ≤ l.2.1 ∧ l.2.1 ≤ b.length then subF b l.1 l.2.1 else []
theorem byteV_ofBytes (b : Bs) : (ofBytes b).all byteV = true := by
  simp only [List.all_eq_true, ofBytes, List.mem_map]
  rintro v ⟨c, _, rfl⟩
  have := c.toNat_lt
  simp [byteV]; omega
theorem ret55 (b : Bs) (hb : b.length ≤ 1000000) (fr to : Int) :
    Ret 55 [.lst 5 false (ofBytes b), .agg [.int .i64 fr, .int .i64 to]] [] (.lst 104 false ((linesOf fr to b).map lnV), []) := by
  refine ret_hand (h := ofF) (by kernel_rfl) ?_
  have h1 := byteV_ofBytes b
  have h2 : (ofBytes b).length < 1099511627776 := by rw [ofBytes_length]; omega
  simp only [ofF, h1, h2, decide_true, Bool.and_self, if_true, bytesOf_ofBytes]
theorem ret73 (a b n : Int) : Ret 73 [.agg [.int .i64 a, .int .i64 b], .int .i64 n] [] (.bool (decide (0 ≤ a ∧ a ≤ b ∧ b ≤ n)), []) := by
  refine M73 a b n ?_
  simp only [T73]
  by_cases h1 : a ≥ 0
  · by_cases h2 : a ≤ b
    · have e : decide (0 ≤ a ∧ a ≤ b ∧ b ≤ n) = decide (b ≤ n) := by simp [h1, h2]
      rw [e]
      simp only [h1, h2, decide_true, if_true, bind_s]
      exact evt_some _
    · have e : decide (0 ≤ a ∧ a ≤ b ∧ b ≤ n) = false := by simp [h2]
      rw [e]
      simp only [h1, h2, decide_true, decide_false, if_true, Bool.false_eq_true, if_false, bind_s]
      exact evt_some _
  · have e : decide (0 ≤ a ∧ a ≤ b ∧ b ≤ n) = false := by simp; omega
    rw [e]
    simp only [h1, decide_false, Bool.false_eq_true, if_false, bind_s]
    exact evt_some _
theorem subB (b : Bs) (fr to : Nat) : bytesOf (List.drop fr (List.take to (ofBytes b))) = subF b fr to := by
  unfold ofBytes subF
  rw [← List.map_take, ← List.map_drop]
  exact bytesOf_ofBytes _
theorem ret57 (b : Bs) (l : Ln) : Ret 57 [.lst 5 false (ofBytes b), lnV l] [] (.str (lineT b l), []) := by
  obtain ⟨p, q, r⟩ := l
  refine M57 (ofBytes b) p q r ?_
  simp only [T57, ofBytes_length]
  refine evt_bind (ret73 p q (b.length : Nat)) ?_
  simp only [V.getB]
  by_cases h : p ≤ q ∧ q ≤ b.length
  · have h1 : (0 : Int) ≤ (p : Int) ∧ (p : Int) ≤ (q : Int) ∧ (q : Int) ≤ (b.length : Int) := by omega
    have e : lineT b (p, q, r) = subF b p q := if_pos h
    simp only [h1, and_self, decide_true, Bool.not_true, Bool.false_eq_true, if_false, chk_t, Int.toNat_natCast, subB, e, chk_p (show (0 : Int) ≤ (q : Int) by omega)]
    exact evt_some _
  · have h1 : ¬ ((0 : Int) ≤ (p : Int) ∧ (p : Int) ≤ (q : Int) ∧ (q : Int) ≤ (b.length : Int)) := by omega
    have e : lineT b (p, q, r) = [] := if_neg h
    simp only [h1, decide_false, Bool.not_false, if_true, e]
    exact evt_some _
def goesF : Bs → Bool
  | [] => false
  | c :: _ => blankB c
theorem ret58 (s : Bs) : Ret 58 [.str s] [] (.bool (goesF s), []) := by
  refine M58 s ?_
  simp only [T58]
  cases s with
  | nil => simp only [sEq, beq_self_eq_true, Bool.not_true, Bool.false_eq_true, if_false, goesF]; exact evt_some _
  | cons c r =>
    have e : sEq (c :: r) [] = false := rfl
    have h1 : (0 : Int) < (((c :: r).length : Nat) : Int) := by simp
    simp only [e, Bool.not_false, if_true, chk_p h1, chk_p (show (0 : Int) ≤ 0 by omega), Int.toNat_zero, List.getD_cons_zero, goesF]
    refine evt_bind (ret78 c) ?_
    exact evt_some _
def emptyF : List Ln → Option Nat
  | [] => none
  | l :: r => if l.1 = l.2.1 then some 0 else (emptyF r).map (· + 1)
theorem getD_ln {l : List Ln} {i : Nat} (h : i < l.length) : (l.map lnV).getD i .bot = lnV l[i] := by simp [List.getD, h]
theorem ret77 (l : Ln) : Ret 77 [lnV l] [] (.bool (decide (l.1 = l.2.1)), []) := by
  obtain ⟨p, q, r⟩ := l
  refine M77 p q r ?_
  simp only [T77]
  have e : (((p : Nat) : Int) == ((q : Nat) : Int)) = decide (p = q) := by
    by_cases h : p = q
    · subst h; simp
    · have : ¬ ((p : Int) = (q : Int)) := by omega
      simp [h, this]
  rw [e]
  exact evt_some _
def optI : Option Nat → Int
  | none => -1
  | some k => k
theorem loop76 (l : List Ln) (hl : l.length ≤ 1000000) : ∀ (n i : Nat), l.length - i ≤ n → i ≤ l.length →
    Evt (fun k n => L76 (callN cfg k) n (l.map lnV) (l.length : Nat) (i : Nat)) (.int .i64 (optI ((emptyF (l.drop i)).map (· + i))), []) := by
  have fin : ∀ i : Nat, i = l.length → Evt (fun k n => L76 (callN cfg k) n (l.map lnV) (l.length : Nat) (i : Nat)) (.int .i64 (optI ((emptyF (l.drop i)).map (· + i))), []) := by
    intro i h
    refine N76_0 (l.map lnV) (l.length : Nat) (i : Nat) ?_
    have h1 : ¬ ((i : Int) < (l.length : Int)) := by omega
    rw [List.drop_eq_nil_of_le (by omega)]
    simp only [T76_0, h1, decide_false, Bool.false_eq_true, if_false, emptyF, Option.map_none, optI]
    exact evt_some _
  intro n
  induction n with
  | zero => intro i h hi; exact fin i (by omega)
  | succ n ih =>
    intro i h hi
    by_cases hlt : i < l.length
    · refine N76_0 (l.map lnV) (l.length : Nat) (i : Nat) ?_
      have h1 : ((i : Int) < (l.length : Int)) := by omega
      have h2 : (0 : Int) ≤ (i : Int) := by omega
      have hw : IntKind.wrap .i64 ((i : Int) + 1) = ((i + 1 : Nat) : Int) := by rw [wrap64 (by omega) (by omega)]; omega
      have hd : l.drop i = l[i] :: l.drop (i + 1) := List.drop_eq_getElem_cons hlt
      simp only [T76_0, h1, decide_true, if_true, chk_p h2, List.length_map, chk_t, Int.toNat_natCast, getD_ln hlt, lnV, V.cells, List.headD_cons, List.tail_cons, V.getI, hw]
      refine evt_bind (ret77 l[i]) ?_
      simp only [V.getB, decide_eq_true_eq]
      rw [hd, emptyF]
      by_cases hn : l[i].1 = l[i].2.1
      · simp only [hn, if_true, Option.map_some, Nat.zero_add, optI]
        exact evt_some _
      · simp only [hn, if_false]
        have := ih (i + 1) (by omega) (by omega)
        have e : ((emptyF (l.drop (i + 1))).map (· + 1)).map (· + i) = (emptyF (l.drop (i + 1))).map (· + (i + 1)) := by
          rw [Option.map_map]; congr 1; funext x; simp only [Function.comp]; omega
        rw [e]
        exact this
    · exact fin i (by omega)
theorem ret56 (l : List Ln) (hl : l.length ≤ 1000000) : Ret 56 [.lst 104 false (l.map lnV)] [] (.int .i64 (optI (emptyF l)), []) := by
  refine M56 (l.map lnV) ?_
  simp only [T56]
  have h76 : Ret 76 [.lst 104 false (l.map lnV), .clo (Fn.func 77) [] []] [] (.int .i64 (optI (emptyF l)), []) := by
    refine M76 (l.map lnV) ?_
    simp only [T76, List.length_map]
    have := loop76 l hl l.length 0 (by omega) (by omega)
    simpa using this
  refine evt_bind h76 ?_
  exact evt_some _
end Go.Proofs.YtemgbdncidgoiaaDoor
end
section
namespace Go.Proofs.YtemgbdncidgoiaaDoor
open Go.Ev Go
def visB (c : UInt8) : Bool := 33 ≤ c && c ≤ 126
def backN (s : Bs) : Nat → Nat
  | 0 => 0
  | n + 1 => if blankB (s.getD n 0) then backN s n else n + 1
theorem backN_le (s : Bs) : ∀ n, backN s n ≤ n
  | 0 => Nat.le_refl _
  | n + 1 => by
    unfold backN
    split
    · have := backN_le s n; omega
    · exact Nat.le_refl _
def namedF (s : Bs) : Option (Bs × Nat) :=
  if Lib.indexByte s 58 < 0 then none else
  if (s.take (backN s (Lib.indexByte s 58).toNat)).all visB && decide (0 < backN s (Lib.indexByte s 58).toNat) then some (s.take (backN s (Lib.indexByte s 58).toNat), (Lib.indexByte s 58).toNat + 1) else none
def NamedV (s : Bs) (r : V × List Ob) : Prop := ∃ u m, r = (.tup [.str u, .int .i64 m, .bool (namedF s).isSome], []) ∧ ∀ p, namedF s = some p → u = p.1 ∧ m = p.2
theorem vis_int (c : UInt8) : (((c.toNat : Nat) : Int) < 33 ∨ ((c.toNat : Nat) : Int) > 126) ↔ visB c = false := by
  have h1 := intB_le 33 c
  have h2 := intB_le c 126
  have e33 : ((UInt8.toNat 33 : Nat) : Int) = 33 := rfl
  have e126 : ((UInt8.toNat 126 : Nat) : Int) = 126 := rfl
  rw [e33] at h1
  rw [e126] at h2
  simp only [visB, Bool.and_eq_false_iff, decide_eq_false_iff_not]
  rw [← h1, ← h2]
  omega
theorem loop59_1 (s : Bs) (hs : s.length ≤ 1000000) (k n : Nat) (hk : Lib.indexByte s 58 = k) (hks : k < s.length) (hn : n = backN s k) : ∀ (m i : Nat), n - i = m → i ≤ n → (s.take i).all visB = true →
    ∃ r, NamedV s r ∧ Evt (fun q j => (L59 (callN cfg q) j).2 s (k : Nat) (n : Nat) (n : Nat) (i : Nat)) r
  | 0, i, h, hi, ha => by
    have hin : i = n := by omega
    subst hin
    have hnk := backN_le s k
    refine ⟨_, ⟨s.take i, (k : Int) + 1, rfl, fun p hp => ?_⟩, N59_1 s (k : Nat) (i : Nat) (i : Nat) (i : Nat) ?_⟩
    · have h0 : ¬ ((k : Int) < 0) := by omega
      unfold namedF at hp
      rw [hk, if_neg h0, Int.toNat_natCast, ← hn, ha] at hp
      split at hp
      · cases hp; exact ⟨rfl, by omega⟩
      · cases hp
    · have h1 : ¬ ((i : Int) < (i : Int)) := by omega
      have h2 : (0 : Int) ≤ (i : Int) := by omega
      have h3 : (i : Int) ≤ (s.length : Int) := by omega
      have hw : IntKind.wrap .i64 ((k : Int) + 1) = (k : Int) + 1 := wrap64 (by omega) (by omega)
      have he : (namedF s).isSome = decide ((i : Int) > 0) := by
        have h0 : ¬ ((k : Int) < 0) := by omega
        unfold namedF
        rw [hk, if_neg h0, Int.toNat_natCast, ← hn, ha]
        by_cases hi0 : 0 < i
        · have : (i : Int) > 0 := by omega
          simp [hi0, this]
        · have : ¬ ((i : Int) > 0) := by omega
          simp [hi0, this]
      rw [he]
      simp only [T59_1, h1, decide_false, Bool.false_eq_true, if_false, chk_p h2, chk_p h3, chk_p (show (0 : Int) ≤ 0 by omega), Int.toNat_zero, List.drop_zero, Int.toNat_natCast, hw]
      exact evt_some _
  | m + 1, i, h, hi, ha => by
    have hnk := backN_le s k
    have his : i < s.length := by omega
    have h1 : ((i : Int) < (n : Int)) := by omega
    have h2 : (0 : Int) ≤ (i : Int) := by omega
    have h3 : (i : Int) < (s.length : Int) := by omega
    have hw : IntKind.wrap .i64 ((i : Int) + 1) = ((i + 1 : Nat) : Int) := by rw [wrap64 (by omega) (by omega)]; omega
    have hy : (chk (decide ((0 : Int) ≤ (i : Int))) (chk (decide ((i : Int) < (s.length : Int))) (if (decide (((s[i].toNat : Nat) : Int) < (33 : Int))) = false then
        chk (decide ((0 : Int) ≤ (i : Int))) (chk (decide ((i : Int) < (s.length : Int))) (some (decide (((s[i].toNat : Nat) : Int) > (126 : Int)))))
      else some true))) = some (!visB s[i]) := by
      rw [chk_p h2, chk_p h3]
      have hv := vis_int s[i]
      by_cases c1 : ((s[i].toNat : Nat) : Int) < 33
      · simp [c1, hv.1 (.inl c1)]
      · by_cases c2 : ((s[i].toNat : Nat) : Int) > 126
        · simp only [c1, c2, decide_false, decide_true, if_true, chk_p h2, chk_p h3, hv.1 (.inr c2), Bool.not_false]
        · have : visB s[i] = true := by
            cases hvv : visB s[i] with
            | true => rfl
            | false => rcases hv.2 hvv with h | h; exact absurd h c1; exact absurd h c2
          simp only [c1, c2, decide_false, if_true, chk_p h2, chk_p h3, this, Bool.not_true]
    by_cases hv : visB s[i] = true
    · obtain ⟨r, hr1, hr2⟩ := loop59_1 s hs k n hk hks hn m (i + 1) (by omega) (by omega) (by
        rw [List.take_add_one, List.all_append, ha, List.getElem?_eq_getElem his]; simp [hv])
      refine ⟨r, hr1, N59_1 s (k : Nat) (n : Nat) (n : Nat) (i : Nat) ?_⟩
      simp only [T59_1, h1, decide_true, if_true, Int.toNat_natCast, getD_at his, hw]
      simp only [hy, bind_s, hv, Bool.not_true, Bool.false_eq_true, if_false]
      exact hr2
    · have hv' : visB s[i] = false := by simpa using hv
      refine ⟨_, ⟨[], 0, rfl, fun p hp => ?_⟩, N59_1 s (k : Nat) (n : Nat) (n : Nat) (i : Nat) ?_⟩
      · exfalso
        have h0 : ¬ ((k : Int) < 0) := by omega
        unfold namedF at hp
        rw [hk, if_neg h0, Int.toNat_natCast, ← hn] at hp
        have : (s.take n).all visB = false := by
          rw [List.all_eq_false]
          exact ⟨s[i], List.mem_take_iff_getElem.2 ⟨i, by omega, rfl⟩, by simp [hv']⟩
        rw [this] at hp
        simp at hp
      · have he : (namedF s).isSome = false := by
          have h0 : ¬ ((k : Int) < 0) := by omega
          have : (s.take n).all visB = false := by
            rw [List.all_eq_false]
            exact ⟨s[i], List.mem_take_iff_getElem.2 ⟨i, by omega, rfl⟩, by simp [hv']⟩
          unfold namedF
          rw [hk, if_neg h0, Int.toNat_natCast, ← hn, this]
          simp
        rw [he]
        simp only [T59_1, h1, decide_true, if_true, Int.toNat_natCast, getD_at his]
        simp only [hy, bind_s, hv', Bool.not_false, if_true]
        exact evt_some _
theorem loop59_0 (s : Bs) (hs : s.length ≤ 1000000) (k : Nat) (hk : Lib.indexByte s 58 = k) (hks : k < s.length) : ∀ n : Nat, n ≤ k → backN s n = backN s k →
    ∃ r, NamedV s r ∧ Evt (fun q j => (L59 (callN cfg q) j).1 s (k : Nat) (n : Nat)) r
  | 0, hn, hb => by
    obtain ⟨r, hr1, hr2⟩ := loop59_1 s hs k 0 hk hks hb 0 0 rfl (Nat.le_refl _) rfl
    refine ⟨r, hr1, N59_0 s (k : Nat) (0 : Nat) ?_⟩
    have h1 : ¬ (((0 : Nat) : Int) > 0) := by omega
    simp only [T59_0, h1, decide_false, Bool.false_eq_true, if_false]
    exact hr2
  | n + 1, hn, hb => by
    have hlt : n < s.length := by omega
    have h1 : (((n + 1 : Nat) : Int) > 0) := by omega
    have hw : IntKind.wrap .i64 (((n + 1 : Nat) : Int) - 1) = (n : Int) := by rw [wrap64 (by omega) (by omega)]; omega
    have h2 : (0 : Int) ≤ (n : Int) := by omega
    have h3 : (n : Int) < (s.length : Int) := by omega
    by_cases hbl : blankB s[n] = true
    · have hb' : backN s n = backN s k := by
        rw [← hb]; conv => rhs; unfold backN
        rw [getD_at hlt, hbl]; rfl
      obtain ⟨r, hr1, hr2⟩ := loop59_0 s hs k hk hks n (by omega) hb'
      refine ⟨r, hr1, N59_0 s (k : Nat) ((n + 1 : Nat) : Int) ?_⟩
      simp only [T59_0, h1, decide_true, if_true, hw, chk_p h2, chk_p h3, Int.toNat_natCast, getD_at hlt]
      refine evt_bind (ret78 s[n]) ?_
      simp only [V.getB, hbl, if_true]
      exact hr2
    · have hbl' : blankB s[n] = false := by simpa using hbl
      have hb' : n + 1 = backN s k := by
        rw [← hb]; unfold backN
        rw [getD_at hlt, hbl']; rfl
      obtain ⟨r, hr1, hr2⟩ := loop59_1 s hs k (n + 1) hk hks hb' (n + 1) 0 (by omega) (by omega) rfl
      refine ⟨r, hr1, N59_0 s (k : Nat) ((n + 1 : Nat) : Int) ?_⟩
      simp only [T59_0, h1, decide_true, if_true, hw, chk_p h2, chk_p h3, Int.toNat_natCast, getD_at hlt]
      refine evt_bind (ret78 s[n]) ?_
      simp only [V.getB, hbl', Bool.false_eq_true, if_false]
      exact hr2
theorem ret59 (s : Bs) (hs : s.length ≤ 1000000) : ∃ r, NamedV s r ∧ Ret 59 [.str s] [] r := by
  have h79 : Ret 79 [.str s, .int .u8 58] [] (.int .i64 (Lib.indexByte s 58), []) := ret_hand (h := ixbF) (by kernel_rfl) rfl
  by_cases h : Lib.indexByte s 58 < 0
  · refine ⟨_, ⟨[], 0, rfl, fun p hp => ?_⟩, M59 s ?_⟩
    · unfold namedF at hp
      rw [if_pos h] at hp; cases hp
    · have he : (namedF s).isSome = false := by unfold namedF; rw [if_pos h]; rfl
      rw [he]
      simp only [T59]
      refine evt_bind h79 ?_
      simp only [V.getI, h, decide_true, if_true]
      exact evt_some _
  · obtain ⟨k, hk⟩ : ∃ k : Nat, Lib.indexByte s 58 = k := ⟨(Lib.indexByte s 58).toNat, by omega⟩
    have hks : k < s.length := (List.getElem?_eq_some_iff.1 (Lib.indexByte_some hk).1).1
    obtain ⟨r, hr1, hr2⟩ := loop59_0 s hs k hk hks k (Nat.le_refl _) rfl
    refine ⟨r, hr1, M59 s ?_⟩
    simp only [T59]
    refine evt_bind h79 ?_
    simp only [V.getI, h, decide_false, Bool.false_eq_true, if_false]
    rw [hk]
    exact hr2
end Go.Proofs.YtemgbdncidgoiaaDoor
end
section
namespace Go.Proofs.YtemgbdncidgoiaaDoor
open Go.Ev Go
abbrev Fd := Bs × Nat × Nat × Nat
def fdV (f : Fd) : V := .agg [.str f.1, .int .i64 f.2.1, .int .i64 f.2.2.1, .int .i64 f.2.2.2]
def setTo (l : List Fd) (to : Nat) : List Fd := match l[l.length - 1]? with | some f => l.set (l.length - 1) (f.1, f.2.1, f.2.2.1, to) | none => l
def stepH (b : Bs) (st : List Fd × Bool) (x : Ln) : List Fd × Bool :=
  if goesF (lineT b x) then (if st.2 then (setTo st.1 x.2.2, true) else st)
  else match namedF (lineT b x) with
    | none => (st.1, false)
    | some p => (st.1 ++ [(p.1, x.1, x.1 + p.2, x.2.2)], true)
def headF (b : Bs) (fr to : Int) : List Fd × Int :=
  if linesOf fr to b = [] then ([], fr) else
  match emptyF (linesOf fr to b) with
    | some k => ((((linesOf fr to b).take k).foldl (stepH b) ([], false)).1, ((linesOf fr to b).getD k (0, 0, 0)).2.2)
    | none => (((linesOf fr to b).foldl (stepH b) ([], false)).1, ((linesOf fr to b).getD ((linesOf fr to b).length - 1) (0, 0, 0)).2.2)
theorem linesG_bounds : ∀ (n a : Nat) (s : Bs), ∀ x ∈ linesG n a s, a ≤ x.1 ∧ x.1 ≤ x.2.1 ∧ x.2.1 ≤ x.2.2 ∧ x.2.2 ≤ a + s.length
  | 0, a, s, x, hx => by cases hx
  | n + 1, a, s, x, hx => by
    unfold linesG at hx
    split at hx
    · cases hx
    · rename_i hs
      split at hx
      · simp at hx; subst hx; simp
      · rename_i hk
        obtain ⟨k, hk'⟩ : ∃ k : Nat, Lib.indexByte s 10 = k := ⟨(Lib.indexByte s 10).toNat, by omega⟩
        have hks : k < s.length := (List.getElem?_eq_some_iff.1 (Lib.indexByte_some hk').1).1
        rw [hk'] at hx
        simp only [Int.toNat_natCast] at hx
        rcases List.mem_cons.1 hx with rfl | hx
        · simp only
          split <;> omega
        · have := linesG_bounds n _ _ x hx
          rw [List.length_drop] at this
          omega
theorem linesOf_bounds {fr to : Int} {b : Bs} : ∀ x ∈ linesOf fr to b, x.1 ≤ x.2.1 ∧ x.2.1 ≤ x.2.2 ∧ x.2.2 ≤ b.length := by
  intro x hx
  unfold linesOf at hx
  split at hx
  · rename_i h
    have := linesG_bounds _ _ _ x hx
    simp at this
    omega
  · cases hx
theorem emptyF_lt : ∀ {l : List Ln} {k : Nat}, emptyF l = some k → k < l.length
  | [], k, h => by cases h
  | x :: r, k, h => by
    unfold emptyF at h
    split at h
    · cases h; simp
    · obtain ⟨j, h1, rfl⟩ := Option.map_eq_some_iff.1 h
      have := emptyF_lt h1
      simp; omega
theorem namedF_le {s : Bs} {p : Bs × Nat} (h : namedF s = some p) : p.2 ≤ s.length := by
  unfold namedF at h
  split at h
  · cases h
  · rename_i hk
    obtain ⟨k, hk'⟩ : ∃ k : Nat, Lib.indexByte s 58 = k := ⟨(Lib.indexByte s 58).toNat, by omega⟩
    have hks : k < s.length := (List.getElem?_eq_some_iff.1 (Lib.indexByte_some hk').1).1
    rw [hk'] at h
    simp only [Int.toNat_natCast] at h
    split at h
    · cases h; simp only; omega
    · cases h
theorem lineT_le (b : Bs) (l : Ln) : (lineT b l).length ≤ b.length := by
  unfold lineT subF
  split
  · simp; omega
  · simp
theorem setTo_length (l : List Fd) (to : Nat) : (setTo l to).length = l.length := by
  unfold setTo; split <;> simp
theorem getD_fd {l : List Fd} {i : Nat} (h : i < l.length) : (l.map fdV).getD i .bot = fdV l[i] := by simp [List.getD, h]
theorem loop39 (b : Bs) (hb : b.length ≤ 1000000) (at_ : Int) (l : List Ln) (hl : l.length ≤ 1000000) (hx : ∀ x ∈ l, x.1 ≤ 1000000) : ∀ (n i : Nat) (out : List Fd) (on : Bool), l.length - i = n → i ≤ l.length → out.length ≤ i → (on = true → out ≠ []) →
    Evt (fun k n => L39 (callN cfg k) n (ofBytes b) at_ (out.map fdV) on (l.map lnV) (l.length : Nat) (i : Nat)) (.tup [.lst 109 false (((l.drop i).foldl (stepH b) (out, on)).1.map fdV), .int .i64 at_], [])
  | 0, i, out, on, h, hi, ho, hon => by
    refine N39_0 (ofBytes b) at_ (out.map fdV) on (l.map lnV) (l.length : Nat) (i : Nat) ?_
    have h1 : ¬ ((i : Int) < (l.length : Int)) := by omega
    rw [List.drop_eq_nil_of_le (by omega)]
    simp only [T39_0, h1, decide_false, Bool.false_eq_true, if_false, List.foldl_nil]
    exact evt_some _
  | n + 1, i, out, on, h, hi, ho, hon => by
    have hlt : i < l.length := by omega
    refine N39_0 (ofBytes b) at_ (out.map fdV) on (l.map lnV) (l.length : Nat) (i : Nat) ?_
    have h1 : ((i : Int) < (l.length : Int)) := by omega
    have h2 : (0 : Int) ≤ (i : Int) := by omega
    have hw : IntKind.wrap .i64 ((i : Int) + 1) = ((i + 1 : Nat) : Int) := by rw [wrap64 (by omega) (by omega)]; omega
    have hd : l.drop i = l[i] :: l.drop (i + 1) := List.drop_eq_getElem_cons hlt
    have hxi := hx l[i] (List.getElem_mem hlt)
    have htl := lineT_le b l[i]
    have h57 : Ret 57 [.lst 5 false (ofBytes b), .agg [.int .i64 (l[i].1 : Nat), .int .i64 (l[i].2.1 : Nat), .int .i64 (l[i].2.2 : Nat)]] [] (.str (lineT b l[i]), []) := ret57 b l[i]
    rw [hd, List.foldl_cons]
    simp only [T39_0, h1, decide_true, if_true, chk_p h2, List.length_map, Int.toNat_natCast, getD_ln hlt, lnV, V.cells, List.headD_cons, List.tail_cons, V.getI, hw]
    refine evt_bind h57 ?_
    simp only [V.getS]
    refine evt_bind (ret58 (lineT b l[i])) ?_
    simp only [V.getB]
    by_cases hg : goesF (lineT b l[i]) = true
    · simp only [hg, if_true]
      cases on with
      | true =>
        have hne := hon rfl
        have hpos : 0 < out.length := List.length_pos_iff.2 hne
        have hw2 : IntKind.wrap .i64 ((out.length : Int) - 1) = ((out.length - 1 : Nat) : Int) := by rw [wrap64 (by omega) (by omega)]; omega
        have h3 : (0 : Int) ≤ ((out.length - 1 : Nat) : Int) := by omega
        have h4 : ((out.length - 1 : Nat) : Int) < (out.length : Int) := by omega
        have hol : out.length - 1 < out.length := by omega
        have hst : stepH b (out, true) l[i] = (setTo out l[i].2.2, true) := by unfold stepH; rw [hg]; rfl
        have hset : (out.map fdV).set (out.length - 1) (.agg [.str out[out.length - 1].1, .int .i64 (out[out.length - 1].2.1 : Nat), .int .i64 (out[out.length - 1].2.2.1 : Nat), .int .i64 (l[i].2.2 : Nat)]) = (setTo out l[i].2.2).map fdV := by
          unfold setTo
          rw [List.getElem?_eq_getElem hol]
          simp only [List.map_set]
          rfl
        rw [hst]
        simp only [if_true, hw2, chk_p h3, chk_p h4, Int.toNat_natCast, getD_fd hol, fdV, V.cells, List.headD_cons, List.tail_cons, V.getS, V.getI]
        rw [hset]
        exact loop39 b hb at_ l hl hx n (i + 1) (setTo out l[i].2.2) true (by omega) (by omega) (by rw [setTo_length]; omega) (fun _ => by
          rw [← List.length_pos_iff, setTo_length]; exact hpos)
      | false =>
        have hst : stepH b (out, false) l[i] = (out, false) := by unfold stepH; rw [hg]; rfl
        rw [hst]
        simp only [Bool.false_eq_true, if_false]
        exact loop39 b hb at_ l hl hx n (i + 1) out false (by omega) (by omega) (by omega) (fun h => by cases h)
    · have hg' : goesF (lineT b l[i]) = false := by simpa using hg
      simp only [hg', Bool.false_eq_true, if_false]
      obtain ⟨r, ⟨u, m, rfl, hum⟩, hr⟩ := ret59 (lineT b l[i]) (by omega)
      refine evt_bind hr ?_
      simp only [V.getT, List.headD_cons, List.tail_cons, V.getB, V.getS, V.getI]
      cases hn : namedF (lineT b l[i]) with
      | none =>
        have hst : stepH b (out, on) l[i] = (out, false) := by unfold stepH; rw [hg', hn]; rfl
        rw [hst]
        simp only [Option.isSome_none, Bool.false_eq_true, if_false]
        exact loop39 b hb at_ l hl hx n (i + 1) out false (by omega) (by omega) (by omega) (fun h => by cases h)
      | some p =>
        obtain ⟨rfl, rfl⟩ := hum p hn
        have hpl := namedF_le hn
        have hst : stepH b (out, on) l[i] = (out ++ [(p.1, l[i].1, l[i].1 + p.2, l[i].2.2)], true) := by unfold stepH; rw [hg', hn]; rfl
        have hw3 : IntKind.wrap .i64 ((l[i].1 : Int) + (p.2 : Int)) = ((l[i].1 + p.2 : Nat) : Int) := by rw [wrap64 (by omega) (by omega)]; omega
        have hap : appOk (out.map fdV) [V.agg [.str p.1, .int .i64 (l[i].1 : Nat), .int .i64 ((l[i].1 + p.2 : Nat) : Int), .int .i64 (l[i].2.2 : Nat)]] 41 = true := app_ok (by simp; omega)
        rw [hst]
        simp only [Option.isSome_some, if_true, hw3, chk_b hap]
        have := loop39 b hb at_ l hl hx n (i + 1) (out ++ [(p.1, l[i].1, l[i].1 + p.2, l[i].2.2)]) true (by omega) (by omega) (by simp; omega) (fun _ => by simp)
        simp only [List.map_append, List.map_cons, List.map_nil, fdV] at this
        exact this
theorem ret39 (b : Bs) (hb : b.length ≤ 1000000) (fr to : Int) :
    Ret 39 [.lst 5 false (ofBytes b), .agg [.int .i64 fr, .int .i64 to]] [] (.tup [.lst 109 false ((headF b fr to).1.map fdV), .int .i64 (headF b fr to).2], []) := by
  refine M39 (ofBytes b) fr to ?_
  simp only [T39]
  refine evt_bind (ret55 b hb fr to) ?_
  have hll := linesOf_length fr to b
  have hbd := linesOf_bounds (fr := fr) (to := to) (b := b)
  simp only [V.getL, List.length_map]
  unfold headF
  generalize linesOf fr to b = l at hll hbd
  by_cases hl0 : l = []
  · subst hl0; exact evt_some _
  · have hpos : 0 < l.length := List.length_pos_iff.2 hl0
    have h0 : ((((l.length : Nat) : Int)) == (0 : Int)) = false := beq_eq_false_iff_ne.2 (by omega)
    have hw : IntKind.wrap .i64 ((l.length : Int) - 1) = ((l.length - 1 : Nat) : Int) := by rw [wrap64 (by omega) (by omega)]; omega
    have h1 : (0 : Int) ≤ ((l.length - 1 : Nat) : Int) := by omega
    have h2 : ((l.length - 1 : Nat) : Int) < (l.length : Int) := by omega
    rw [if_neg hl0]
    simp only [h0, Bool.false_eq_true, if_false, hw, chk_p h1, chk_p h2]
    refine evt_bind (ret56 l (by omega)) ?_
    have hxs : ∀ y ∈ l, y.1 ≤ 1000000 := fun y hy => by have := hbd y hy; omega
    have hgi : ∀ z : Int, (V.int .i64 z).getI = z := fun _ => rfl
    simp only [hgi]
    cases he : emptyF l with
    | none =>
      have hoi : optI none = -1 := rfl
      have h3 : ¬ ((-1 : Int) ≥ (0 : Int)) := by omega
      have hlt : l.length - 1 < l.length := by omega
      simp only [hoi, h3, decide_false, Bool.false_eq_true, if_false, Int.toNat_natCast, getD_ln hlt, lnV, V.cells, List.headD_cons, List.tail_cons, hgi]
      have := loop39 b hb (l[l.length - 1].2.2 : Nat) l (by omega) hxs l.length 0 [] false (by omega) (by omega) (by simp) (fun h => by cases h)
      have e : l.getD (l.length - 1) (0, 0, 0) = l[l.length - 1] := by simp [List.getD, hlt]
      rw [e]
      simpa using this
    | some k =>
      have hk := emptyF_lt he
      have hoi : optI (some k) = (k : Int) := rfl
      have h3 : ((k : Int) ≥ (0 : Int)) := by omega
      have h5 : (k : Int) < (l.length : Int) := by omega
      have h6 : (k : Int) ≤ (l.length : Int) := by omega
      simp only [hoi]
      simp only [h3, decide_true, if_true, chk_t, chk_p h5, chk_p h6, chk_p (show (0 : Int) ≤ 0 by omega), Int.toNat_natCast, getD_ln hk, lnV, V.cells, List.headD_cons, List.tail_cons, hgi, Int.toNat_zero, List.drop_zero]
      have e : l.getD k (0, 0, 0) = l[k] := by simp [List.getD, hk]
      have htl : (l.take k).length = k := by simp; omega
      have := loop39 b hb (l[k].2.2 : Nat) (l.take k) (by omega) (fun y hy => hxs y (List.mem_of_mem_take hy)) k 0 [] false (by omega) (by omega) (by simp) (fun h => by cases h)
      rw [e]
      rw [List.map_take] at this
      have hmin : min k l.length = k := by omega
      simpa [htl, hmin] using this
end Go.Proofs.YtemgbdncidgoiaaDoor
end
section
namespace Go.Proofs.YtemgbdncidgoiaaDoor
open Go.Ev Go
def low (s : Bs) : Bs := s.map low8
def idxFd : List Fd → Bs → Option Nat
  | [], _ => none
  | f :: r, name => if low f.1 = low name then some 0 else (idxFd r name).map (· + 1)
def findFd : List Fd → Bs → Option Fd
  | [], _ => none
  | f :: r, name => if low f.1 = low name then some f else findFd r name
theorem idxFd_some : ∀ {l : List Fd} {name : Bs} {k : Nat}, idxFd l name = some k → ∃ h : k < l.length, findFd l name = some l[k]
  | [], _, k, h => by cases h
  | f :: r, name, k, h => by
    unfold idxFd at h
    unfold findFd
    split at h
    · rename_i hc
      cases h
      exact ⟨by simp, by rw [if_pos hc]; rfl⟩
    · rename_i hc
      obtain ⟨j, h1, rfl⟩ := Option.map_eq_some_iff.1 h
      obtain ⟨h2, h3⟩ := idxFd_some h1
      exact ⟨by simp; omega, by rw [if_neg hc, h3]; rfl⟩
theorem idxFd_none : ∀ {l : List Fd} {name : Bs}, idxFd l name = none → findFd l name = none
  | [], _, _ => rfl
  | f :: r, name, h => by
    unfold idxFd at h
    unfold findFd
    split at h
    · cases h
    · rename_i hc
      rw [if_neg hc]
      exact idxFd_none (by simpa using h)
theorem ret89 (f : Fd) (name : Bs) (hf : f.1.length ≤ 1000000) (hn : name.length ≤ 1000000) :
    Ret 89 [fdV f, .ref 0 0] [.cells [.str name]] (.bool (low f.1 == low name), [.cells [.str name]]) := by
  obtain ⟨a, p, q, r⟩ := f
  refine M89 a p q r name ?_
  simp only [T89]
  refine evt_bind (ret62 a name (by simp only at hf; omega) (by omega)) ?_
  exact evt_some _
theorem loop88 (name : Bs) (hn : name.length ≤ 1000000) (l : List Fd) (hl : l.length ≤ 1000000) (hv : ∀ f ∈ l, f.1.length ≤ 1000000) : ∀ (n i : Nat), l.length - i ≤ n → i ≤ l.length →
    Evt (fun k n => L88 (callN cfg k) n (l.map fdV) (l.length : Nat) (i : Nat) name) (.int .i64 (optI ((idxFd (l.drop i) name).map (· + i))), [.cells [.str name]]) := by
  have fin : ∀ i : Nat, i = l.length → Evt (fun k n => L88 (callN cfg k) n (l.map fdV) (l.length : Nat) (i : Nat) name) (.int .i64 (optI ((idxFd (l.drop i) name).map (· + i))), [.cells [.str name]]) := by
    intro i h
    refine N88_0 (l.map fdV) (l.length : Nat) (i : Nat) name ?_
    have h1 : ¬ ((i : Int) < (l.length : Int)) := by omega
    rw [List.drop_eq_nil_of_le (by omega)]
    simp only [T88_0, h1, decide_false, Bool.false_eq_true, if_false, idxFd, Option.map_none, optI]
    exact evt_some _
  intro n
  induction n with
  | zero => intro i h hi; exact fin i (by omega)
  | succ n ih =>
    intro i h hi
    by_cases hlt : i < l.length
    · refine N88_0 (l.map fdV) (l.length : Nat) (i : Nat) name ?_
      have h1 : ((i : Int) < (l.length : Int)) := by omega
      have h2 : (0 : Int) ≤ (i : Int) := by omega
      have hw : IntKind.wrap .i64 ((i : Int) + 1) = ((i + 1 : Nat) : Int) := by rw [wrap64 (by omega) (by omega)]; omega
      have hd : l.drop i = l[i] :: l.drop (i + 1) := List.drop_eq_getElem_cons hlt
      simp only [T88_0, h1, decide_true, if_true, chk_p h2, List.length_map, chk_t, Int.toNat_natCast, getD_fd hlt, fdV, V.cells, List.headD_cons, List.tail_cons, V.getI, V.getS, hw]
      refine evt_bind (ret89 l[i] name (hv _ (List.getElem_mem hlt)) hn) ?_
      simp only [V.getB, List.headD_cons, Ob.getC, V.getS]
      rw [hd, idxFd]
      by_cases hc : low l[i].1 = low name
      · simp only [hc, beq_self_eq_true, if_true, Option.map_some, Nat.zero_add, optI]
        exact evt_some _
      · have hb : (low l[i].1 == low name) = false := by simpa using hc
        simp only [hb, hc, Bool.false_eq_true, if_false]
        have := ih (i + 1) (by omega) (by omega)
        have e : ((idxFd (l.drop (i + 1)) name).map (· + 1)).map (· + i) = (idxFd (l.drop (i + 1)) name).map (· + (i + 1)) := by
          rw [Option.map_map]; congr 1; funext x; simp only [Function.comp]; omega
        rw [e]
        exact this
    · exact fin i (by omega)
def fdTold : Option Fd → V
  | some f => .tup [fdV f, .bool true]
  | none => .tup [.agg [.str [], .int .i64 0, .int .i64 0, .int .i64 0], .bool false]
theorem ret64 (l : List Fd) (hl : l.length ≤ 1000000) (hv : ∀ f ∈ l, f.1.length ≤ 1000000) (name : Bs) (hn : name.length ≤ 1000000) :
    Ret 64 [.lst 109 false (l.map fdV), .str name] [] (fdTold (findFd l name), []) := by
  refine M64 (l.map fdV) name ?_
  simp only [T64, List.length_map]
  have h88 : Ret 88 [.lst 109 false (l.map fdV), .clo (Fn.func 89) [] [.ref 0 0]] [.cells [.str name]] (.int .i64 (optI (idxFd l name)), [.cells [.str name]]) := by
    refine M88 (l.map fdV) name ?_
    simp only [T88, List.length_map]
    have := loop88 name hn l hl hv l.length 0 (by omega) (by omega)
    simpa using this
  refine evt_bind h88 ?_
  have hgi : ∀ z : Int, (V.int .i64 z).getI = z := fun _ => rfl
  simp only [hgi]
  cases he : idxFd l name with
  | none =>
    have hoi : optI none = -1 := rfl
    have h3 : ((-1 : Int) < (0 : Int)) := by omega
    rw [idxFd_none he]
    simp only [hoi, h3, decide_true, if_true]
    exact evt_some _
  | some k =>
    obtain ⟨hk, hfd⟩ := idxFd_some he
    have hoi : optI (some k) = (k : Int) := rfl
    have h3 : ¬ ((k : Int) < (0 : Int)) := by omega
    have h4 : (0 : Int) ≤ (k : Int) := by omega
    have h5 : (k : Int) < (l.length : Int) := by omega
    rw [hfd]
    simp only [hoi]
    simp only [h3, decide_false, Bool.false_eq_true, if_false, chk_p h4, chk_p h5, Int.toNat_natCast, getD_fd hk, fdV, V.cells, List.headD_cons, List.tail_cons, hgi, V.getS, fdTold]
    exact evt_some _
end Go.Proofs.YtemgbdncidgoiaaDoor
end
section
namespace Go.Proofs.YtemgbdncidgoiaaDoor
open Go.Ev Go
def ltrim : Bs → Bs
  | [] => []
  | c :: r => if blankB c then ltrim r else c :: r
def rtrimN (s : Bs) : Nat → Bs
  | 0 => []
  | n + 1 => if blankB (s.getD n 0) then rtrimN s n else s.take (n + 1)
def trimF (s : Bs) : Bs := rtrimN (ltrim s) (ltrim s).length
theorem ltrim_le : ∀ s : Bs, (ltrim s).length ≤ s.length
  | [] => Nat.le_refl _
  | c :: r => by
    unfold ltrim
    split
    · have := ltrim_le r; simp; omega
    · exact Nat.le_refl _
theorem rtrimN_le (s : Bs) : ∀ n, (rtrimN s n).length ≤ s.length
  | 0 => by simp [rtrimN]
  | n + 1 => by
    unfold rtrimN
    split
    · exact rtrimN_le s n
    · simp; omega
theorem trimF_le (s : Bs) : (trimF s).length ≤ s.length := Nat.le_trans (rtrimN_le _ _) (ltrim_le s)
theorem loop87_1 (s : Bs) (hs : s.length ≤ 9000000000000000000) : ∀ n, n ≤ s.length → Evt (fun k j => (L87 (callN cfg k) j).2 (s.take n)) (.str (rtrimN s n), [])
  | 0, hn => by
    refine N87_1 (s.take 0) ?_
    simp only [List.take_zero, T87_1, List.length_nil, rtrimN]
    exact evt_some _
  | n + 1, hn => by
    refine N87_1 (s.take (n + 1)) ?_
    have hl : (s.take (n + 1)).length = n + 1 := by simp; omega
    have h1 : (((n + 1 : Nat) : Int) > 0) := by omega
    have hw : IntKind.wrap .i64 (((n + 1 : Nat) : Int) - 1) = (n : Int) := by rw [wrap64 (by omega) (by omega)]; omega
    have h2 : (0 : Int) ≤ (n : Int) := by omega
    have h3 : (n : Int) < ((n + 1 : Nat) : Int) := by omega
    have h4 : (n : Int) ≤ ((n + 1 : Nat) : Int) := by omega
    have hlt : n < s.length := by omega
    have hg : (s.take (n + 1)).getD n 0 = s[n] := by simp [List.getD, List.getElem?_take, hlt]
    have htt : List.drop 0 (List.take n (s.take (n + 1))) = s.take n := by rw [List.drop_zero, List.take_take]; congr 1; omega
    have hgs : s.getD n 0 = s[n] := getD_at hlt
    simp only [T87_1, hl, h1, decide_true, if_true, hw, chk_p h2, chk_p h3, chk_p h4, chk_p (show (0 : Int) ≤ 0 by omega), Int.toNat_natCast, hg, Int.toNat_zero, htt]
    refine evt_bind (ret78 s[n]) ?_
    unfold rtrimN
    rw [hgs]
    cases hb : blankB s[n]
    · simp only [V.getB, Bool.false_eq_true, if_false]; exact evt_some _
    · simp only [V.getB, if_true]; exact loop87_1 s hs n (by omega)
theorem loop87_0 : ∀ s : Bs, s.length ≤ 9000000000000000000 → Evt (fun k j => (L87 (callN cfg k) j).1 s) (.str (trimF s), [])
  | [], hs => by
    refine N87_0 [] ?_
    have := loop87_1 [] (by simp) 0 (by simp)
    simp only [T87_0, List.length_nil]
    simpa [trimF, ltrim, rtrimN] using this
  | c :: r, hs => by
    refine N87_0 (c :: r) ?_
    have h1 : ((((c :: r).length : Nat) : Int) > 0) := by simp
    have h2 : ((0 : Int) < (((c :: r).length : Nat) : Int)) := h1
    have h3 : ((1 : Int) ≤ (((c :: r).length : Nat) : Int)) := by omega
    simp only [T87_0, h1, decide_true, if_true, chk_p h2, chk_p h3, chk_p (show (0 : Int) ≤ 0 by omega), chk_p (show (0 : Int) ≤ 1 by omega), Int.toNat_zero, List.getD_cons_zero, Int.toNat_one, List.drop_one, List.tail_cons, chk_t]
    refine evt_bind (ret78 c) ?_
    cases hb : blankB c
    · simp only [V.getB, Bool.false_eq_true, if_false]
      have := loop87_1 (c :: r) hs (c :: r).length (Nat.le_refl _)
      rw [List.take_length] at this
      have e : ltrim (c :: r) = c :: r := by unfold ltrim; rw [hb]; rfl
      unfold trimF
      rw [e]
      exact this
    · simp only [V.getB, if_true]
      have e : trimF (c :: r) = trimF r := by
        unfold trimF
        have : ltrim (c :: r) = ltrim r := by conv => lhs; unfold ltrim
                                              rw [hb]; rfl
        rw [this]
      rw [e]
      exact loop87_0 r (by simp at hs; omega)
theorem ret87 (s : Bs) (hs : s.length ≤ 9000000000000000000) : Ret 87 [.str s] [] (.str (trimF s), []) := by
  refine M87 s ?_
  exact loop87_0 s hs
theorem ret91 (o s : Bs) (h : o.length + s.length ≤ 10000000000000) :
    Ret 91 [.ref 0 0, .str s] [.cells [.opt 0 0, .lst 5 true (ofBytes o)]] (.tup [.int .i64 (s.length : Nat), .raw .nilIface], [.cells [.opt 0 0, .lst 5 true (ofBytes (o ++ s))]]) := by
  refine M91 (ofBytes o) s ?_
  have h108 : Ret 108 [.ref 0 0] [.cells [.opt 0 0, .lst 5 true (ofBytes o)]] (.tup [], [.cells [.opt 0 0, .lst 5 true (ofBytes o)]]) := ret_hand (h := checkF) (by kernel_rfl) rfl
  have hap : appOkS (ofBytes o) s 2 = true := by simp [appOkS, ofBytes_length]; omega
  have hof : ofBytes o ++ ofBytes s = ofBytes (o ++ s) := by simp [ofBytes]
  simp only [T91]
  refine evt_bind h108 ?_
  simp only [List.headD_cons, Ob.getC, List.tail_cons, V.getL, chk_b hap, hof]
  exact evt_some _
def bodyF (b : Bs) (f : Fd) : Bs := trimF ((linesOf f.2.2.1 f.2.2.2 b).flatMap (lineT b))
theorem linesG_sum : ∀ (n a : Nat) (s : Bs), ((linesG n a s).map fun x => x.2.1 - x.1).sum ≤ s.length
  | 0, a, s => by simp [linesG]
  | n + 1, a, s => by
    unfold linesG
    split
    · simp
    · split
      · simp
      · rename_i hk
        obtain ⟨k, hk'⟩ : ∃ k : Nat, Lib.indexByte s 10 = k := ⟨(Lib.indexByte s 10).toNat, by omega⟩
        have hks : k < s.length := (List.getElem?_eq_some_iff.1 (Lib.indexByte_some hk').1).1
        have := linesG_sum n (a + k + 1) (s.drop (k + 1))
        rw [List.length_drop] at this
        rw [hk']
        simp only [Int.toNat_natCast, List.map_cons, List.sum_cons]
        split <;> omega
theorem flat_lineT_le (b : Bs) : ∀ l : List Ln, (l.flatMap (lineT b)).length ≤ (l.map fun x => x.2.1 - x.1).sum
  | [] => by simp
  | x :: r => by
    have := flat_lineT_le b r
    have h : (lineT b x).length ≤ x.2.1 - x.1 := by
      unfold lineT subF
      split
      · simp; omega
      · simp
    simp only [List.flatMap_cons, List.length_append, List.map_cons, List.sum_cons]
    omega
theorem linesOf_text_le (fr to : Int) (b : Bs) : ((linesOf fr to b).flatMap (lineT b)).length ≤ b.length := by
  refine Nat.le_trans (flat_lineT_le b _) ?_
  unfold linesOf
  split
  · exact Nat.le_trans (linesG_sum _ _ _) (by simp; omega)
  · simp
theorem bodyF_le (b : Bs) (f : Fd) : (bodyF b f).length ≤ b.length := Nat.le_trans (trimF_le _) (linesOf_text_le _ _ _)
theorem loop66 (b : Bs) (l : List Ln) (hl : l.length ≤ 1000000) (hb : b.length ≤ 1000000) (hsum : (l.flatMap (lineT b)).length ≤ 1000000) (a : Bs) (p q r : Int) : ∀ (n i : Nat), l.length - i = n → i ≤ l.length →
    Evt (fun k j => L66 (callN cfg k) j (ofBytes b) (l.map lnV) (l.length : Nat) (i : Nat) a p q r (ofBytes ((l.take i).flatMap (lineT b)))) (.str (trimF (l.flatMap (lineT b))), [])
  | 0, i, h, hi => by
    have hil : i = l.length := by omega
    subst hil
    rw [List.take_length]
    refine N66_0 (ofBytes b) (l.map lnV) (l.length : Nat) (l.length : Nat) a p q r (ofBytes (l.flatMap (lineT b))) ?_
    have h1 : ¬ ((l.length : Int) < (l.length : Int)) := by omega
    have h92 : Ret 92 [.ref 0 0] [.cells [.opt 0 0, .lst 5 true (ofBytes (l.flatMap (lineT b)))]] (.str (l.flatMap (lineT b)), [.cells [.opt 0 0, .lst 5 false (ofBytes (l.flatMap (lineT b)))]]) := by
      refine ret_hand (h := Go.Ev.textF) (by kernel_rfl) ?_
      have h2 := byteV_ofBytes (l.flatMap (lineT b))
      have h3 : (ofBytes (l.flatMap (lineT b))).length < 1099511627776 := by rw [ofBytes_length]; omega
      simp only [Go.Ev.textF, h2, h3, decide_true, Bool.and_self, if_true, bytesOf_ofBytes]
    simp only [T66_0, h1, decide_false, Bool.false_eq_true, if_false]
    refine evt_bind h92 ?_
    simp only [V.getS]
    refine evt_bind (ret87 (l.flatMap (lineT b)) (by omega)) ?_
    exact evt_some _
  | n + 1, i, h, hi => by
    have hlt : i < l.length := by omega
    refine N66_0 (ofBytes b) (l.map lnV) (l.length : Nat) (i : Nat) a p q r (ofBytes ((l.take i).flatMap (lineT b))) ?_
    have h1 : ((i : Int) < (l.length : Int)) := by omega
    have h2 : (0 : Int) ≤ (i : Int) := by omega
    have hw : IntKind.wrap .i64 ((i : Int) + 1) = ((i + 1 : Nat) : Int) := by rw [wrap64 (by omega) (by omega)]; omega
    have h57 : Ret 57 [.lst 5 false (ofBytes b), .agg [.int .i64 (l[i].1 : Nat), .int .i64 (l[i].2.1 : Nat), .int .i64 (l[i].2.2 : Nat)]] [] (.str (lineT b l[i]), []) := ret57 b l[i]
    have htake : (l.take (i + 1)).flatMap (lineT b) = (l.take i).flatMap (lineT b) ++ lineT b l[i] := by
      rw [List.take_add_one, List.getElem?_eq_getElem hlt, Option.toList_some, List.flatMap_append]
      simp only [List.flatMap_cons, List.flatMap_nil, List.append_nil]
    have hle : ((l.take (i + 1)).flatMap (lineT b)).length ≤ 1000000 := by
      have e : l.flatMap (lineT b) = (l.take (i + 1)).flatMap (lineT b) ++ (l.drop (i + 1)).flatMap (lineT b) := by rw [← List.flatMap_append, List.take_append_drop]
      rw [e, List.length_append] at hsum; omega
    simp only [T66_0, h1, decide_true, if_true, chk_p h2, List.length_map, chk_t, Int.toNat_natCast, getD_ln hlt, lnV, V.cells, List.headD_cons, List.tail_cons, V.getI, hw]
    refine evt_bind h57 ?_
    simp only [V.getS]
    refine evt_bind (ret91 ((l.take i).flatMap (lineT b)) (lineT b l[i]) (by rw [htake, List.length_append] at hle; omega)) ?_
    simp only [List.headD_cons, Ob.getC, List.tail_cons, V.getL]
    rw [← htake]
    exact loop66 b l hl hb hsum a p q r n (i + 1) (by omega) (by omega)
theorem ret66 (b : Bs) (hb : b.length ≤ 1000000) (f : Fd) : Ret 66 [.lst 5 false (ofBytes b), fdV f] [] (.str (bodyF b f), []) := by
  obtain ⟨a, p, q, r⟩ := f
  refine M66 (ofBytes b) a p q r ?_
  simp only [T66]
  refine evt_bind (ret55 b hb q r) ?_
  have h1 := linesOf_length q r b
  have h2 := linesOf_text_le q r b
  simp only [V.getL, List.length_map]
  have := loop66 b (linesOf q r b) (by omega) hb (by omega) a p q r (linesOf q r b).length 0 (by omega) (by omega)
  simp only [List.take_zero, List.flatMap_nil] at this
  exact this
def valueF (b : Bs) (l : List Fd) (name : Bs) : Bs := match findFd l name with | some f => bodyF b f | none => []
theorem valueF_le (b : Bs) (l : List Fd) (name : Bs) : (valueF b l name).length ≤ b.length := by
  unfold valueF
  split
  · exact bodyF_le b _
  · simp
theorem ret61 (b : Bs) (hb : b.length ≤ 1000000) (l : List Fd) (hl : l.length ≤ 1000000) (hv : ∀ f ∈ l, f.1.length ≤ 1000000) (name : Bs) (hn : name.length ≤ 1000000) :
    Ret 61 [.lst 5 false (ofBytes b), .lst 109 false (l.map fdV), .str name] [] (.str (valueF b l name), []) := by
  refine M61 (ofBytes b) (l.map fdV) name ?_
  simp only [T61]
  refine evt_bind (ret64 l hl hv name hn) ?_
  unfold valueF
  cases findFd l name with
  | none =>
    simp only [fdTold, V.getT, List.tail_cons, List.headD_cons, V.getB, Bool.not_false, if_true]
    exact evt_some _
  | some f =>
    have h66 : Ret 66 [.lst 5 false (ofBytes b), .agg [.str f.1, .int .i64 f.2.1, .int .i64 f.2.2.1, .int .i64 f.2.2.2]] [] (.str (bodyF b f), []) := ret66 b hb f
    simp only [fdTold, V.getT, List.tail_cons, List.headD_cons, V.getB, Bool.not_true, Bool.false_eq_true, if_false, fdV, V.cells, V.getS, V.getI]
    refine evt_bind h66 ?_
    exact evt_some _
end Go.Proofs.YtemgbdncidgoiaaDoor
end
section
namespace Go.Proofs.YtemgbdncidgoiaaDoor
open Go.Ev Go
open List (headD tail getD length drop take)
open V (getI getL getT getS getB)
set_option maxRecDepth 100000
variable (call : FuncId → Fun) (icall : ICall (V × List Ob)) (again : List It → St → Option (V × List Ob))
def T40 (call : FuncId → Fun) (a0 : List V) (a1 : Int) (a2 : List V) (a3 : Bool) : Option (V × List Ob) :=
 Option.bind (call 61 [(V.lst 5 false a0), (V.lst 109 false a2), (V.str [99, 111, 110, 116, 101, 110, 116, 45, 116, 121, 112, 101])] []) fun z0 =>
 Option.bind (call 60 [(V.str (getS z0.1)), (V.bool true)] []) fun z1 =>
 if (getB (headD (tail (getT z1.1)) V.bot)) = true then
 some ((V.agg [(V.str (getS (headD (V.cells (headD (getT z1.1) V.bot)) V.bot))), (V.str (getS (headD (tail (V.cells (headD (getT z1.1) V.bot))) V.bot))), (V.lst 116 false (getL (headD (tail (tail (V.cells (headD (getT z1.1) V.bot)))) V.bot)))]), [(Ob.cells [(V.lst 5 false a0), (V.int .i64 a1)])])
 else
 if a3 = true then
 some ((V.agg [(V.str [109, 101, 115, 115, 97, 103, 101]), (V.str [114, 102, 99, 56, 50, 50]), (V.lst 116 false [])]), [(Ob.cells [(V.lst 5 false a0), (V.int .i64 a1)])])
 else
 some ((V.agg [(V.str [116, 101, 120, 116]), (V.str [112, 108, 97, 105, 110]), (V.lst 116 false [])]), [(Ob.cells [(V.lst 5 false a0), (V.int .i64 a1)])])
def O40 (a0 : List V) (a1 : Int) : List Ob := [Ob.cells [V.lst 5 false a0, V.int IntKind.i64 a1]]
def A40 (a2 : List V) (a3 : Bool) : List V := [V.ref 0 0, V.lst 109 false a2, V.bool a3]
theorem E40 (a0 : List V) (a1 : Int) (a2 : List V) (a3 : Bool) : GO 40 Tryd.f40 (A40 a2 a3) (O40 a0 a1) call icall again = T40 call a0 a1 a2 a3 := by kernel_rfl
theorem C40 (k : Nat) (a0 : List V) (a1 : Int) (a2 : List V) (a3 : Bool) : callN cfg (k + 1) 40 (A40 a2 a3) (O40 a0 a1) = T40 (callN cfg k) a0 a1 a2 a3 :=
 (show callN cfg (k + 1) 40 (A40 a2 a3) (O40 a0 a1) = GO 40 Tryd.f40 (A40 a2 a3) (O40 a0 a1) (callN cfg k) (icallN cfg (callN cfg k) 20) (RN 40 Tryd.f40 (O40 a0 a1) (callN cfg k) (icallN cfg (callN cfg k) 20) k) by kernel_rfl).trans (E40 _ _ _ a0 a1 a2 a3)
theorem M40 (a0 : List V) (a1 : Int) (a2 : List V) (a3 : Bool) {r : V × List Ob} (h : Evt (fun k n => T40 (callN cfg k) a0 a1 a2 a3) r) : Ret 40 [V.ref 0 0, V.lst 109 false a2, V.bool a3] [Ob.cells [V.lst 5 false a0, V.int IntKind.i64 a1]] r := ret_mk (g := fun k n => T40 (callN cfg k) a0 a1 a2 a3) (fun k => C40 k a0 a1 a2 a3) h
def T42_0 (call : FuncId → Fun) (ag0 : List UInt8 → List V → Int → List V → Int → Int → List V → Int → Int → Int → Int → Int → Int → Int → Option (V × List Ob)) (s0 : List UInt8) (l1 : List V) (i2 : Int) (l3 : List V) (i4 : Int) (i5 : Int) (l6 : List V) (i7 : Int) (i8 : Int) (i9 : Int) (i10 : Int) (i11 : Int) (i12 : Int) (i13 : Int) : Option (V × List Ob) :=
 if (decide (i5 < i4)) = true then
 chk (decide (0 ≤ i5)) (chk (decide (i5 < ((length l3 : Nat) : Int))) (Option.bind (call 57 [(V.lst 5 false l6), (V.agg [(V.int .i64 (getI (headD (V.cells (getD l3 (Int.toNat i5) V.bot)) V.bot))), (V.int .i64 (getI (headD (tail (V.cells (getD l3 (Int.toNat i5) V.bot))) V.bot))), (V.int .i64 (getI (headD (tail (tail (V.cells (getD l3 (Int.toNat i5) V.bot)))) V.bot)))])] []) fun z0 =>
 Option.bind (call 63 [(V.str (getS z0.1)), (V.str s0)] []) fun z1 =>
 if (!(getB (headD (getT z1.1) V.bot))) = true then
 (ag0 (s0) (l1) ((getI (headD (tail (V.cells (getD l3 (Int.toNat i5) V.bot))) V.bot))) (l3) (i4) ((IntKind.wrap .i64 (i5 + (1 : Int)))) (l6) (i7) (i8) (i9) (i10) (i11) (i12) (i13))
 else
 if (getB (headD (tail (getT z1.1)) V.bot)) = true then
 some ((V.tup [(V.lst 24 false l1), (V.agg [(V.int .i64 i2), (V.int .i64 (getI (headD (tail (tail (V.cells (getD l3 (Int.toNat i5) V.bot)))) V.bot)))]), (V.bool (decide (((length l1 : Nat) : Int) > (0 : Int))))]), [(Ob.cells [(V.lst 5 false l6), (V.int .i64 i7)])])
 else
 chk (appOk l1 [(V.agg [(V.int .i64 i2), (V.int .i64 (getI (headD (tail (tail (V.cells (getD l3 (Int.toNat i5) V.bot)))) V.bot)))])] 17) ((ag0 (s0) ((l1 ++ [(V.agg [(V.int .i64 i2), (V.int .i64 (getI (headD (tail (tail (V.cells (getD l3 (Int.toNat i5) V.bot)))) V.bot)))])])) ((getI (headD (tail (tail (V.cells (getD l3 (Int.toNat i5) V.bot)))) V.bot))) (l3) (i4) ((IntKind.wrap .i64 (i5 + (1 : Int)))) (l6) (i7) (i8) (i9) (i10) (i11) (i12) (i13)))))
 else
 some ((V.tup [(V.lst 24 false l1), (V.agg [(V.int .i64 i12), (V.int .i64 i13)]), (V.bool (decide (((length l1 : Nat) : Int) > (0 : Int))))]), [(Ob.cells [(V.lst 5 false l6), (V.int .i64 i7)])])
def T42 (call : FuncId → Fun) (ag0 : List UInt8 → List V → Int → List V → Int → Int → List V → Int → Int → Int → Int → Int → Int → Int → Option (V × List Ob)) (a0 : List V) (a1 : Int) (a2 : Int) (a3 : Int) (a4 : List UInt8) : Option (V × List Ob) :=
 Option.bind (call 55 [(V.lst 5 false a0), (V.agg [(V.int .i64 a2), (V.int .i64 a3)])] []) fun z0 =>
 (ag0 (a4) ([]) (a2) ((getL z0.1)) (((length (getL z0.1) : Nat) : Int)) ((0 : Int)) (a0) (a1) (a2) (a3) ((0 : Int)) ((0 : Int)) (a3) (a3))
def O42 (a0 : List V) (a1 : Int) : List Ob := [Ob.cells [V.lst 5 false a0, V.int IntKind.i64 a1]]
def A42 (a2 : Int) (a3 : Int) (a4 : List UInt8) : List V := [V.ref 0 0, V.agg [V.int IntKind.i64 a2, V.int IntKind.i64 a3], V.str a4]
def K42_0 (s0 : List UInt8) (l1 : List V) (i2 : Int) (l3 : List V) (i4 : Int) (i5 : Int) (l6 : List V) (i7 : Int) (i8 : Int) (i9 : Int) (i10 : Int) (i11 : Int) (i12 : Int) (i13 : Int) : St := ⟨[(V.ref 0 0), V.bot, (V.str s0), V.bot, V.bot, V.bot, V.bot, (V.ref 2 0), V.bot, (V.lst 24 true l1), (V.ref 3 0), (V.int IntKind.i64 i2), V.bot, V.bot, V.bot, V.bot, V.bot, V.bot, V.bot, V.bot, V.bot, V.bot, V.bot, V.bot, V.bot, V.bot, V.bot, V.bot, V.bot, (V.lst 104 false l3), (V.int IntKind.i64 i4), (V.int IntKind.i64 i5)] ++ List.replicate 42 V.bot, [(Ob.cells [(V.lst 5 false l6), (V.int IntKind.i64 i7)]), (Ob.cells [(V.int IntKind.i64 i8), (V.int IntKind.i64 i9)]), (Ob.cells [(V.int IntKind.i64 i10), (V.int IntKind.i64 i11)]), (Ob.cells [(V.int IntKind.i64 i12), (V.int IntKind.i64 i13)])]⟩
theorem S42_0 (a0 : List V) (a1 : Int) (s0 : List UInt8) (l1 : List V) (i2 : Int) (l3 : List V) (i4 : Int) (i5 : Int) (l6 : List V) (i7 : Int) (i8 : Int) (i9 : Int) (i10 : Int) (i11 : Int) (i12 : Int) (i13 : Int) :
 RM 42 Tryd.f42 (O42 a0 a1) call icall again (tdOf Tryd.f42 0) (K42_0 s0 l1 i2 l3 i4 i5 l6 i7 i8 i9 i10 i11 i12 i13) = T42_0 call (fun s0 l1 i2 l3 i4 i5 l6 i7 i8 i9 i10 i11 i12 i13 => again (tdOf Tryd.f42 0) (K42_0 s0 l1 i2 l3 i4 i5 l6 i7 i8 i9 i10 i11 i12 i13)) s0 l1 i2 l3 i4 i5 l6 i7 i8 i9 i10 i11 i12 i13 := by kernel_rfl
theorem E42 (a0 : List V) (a1 : Int) (a2 : Int) (a3 : Int) (a4 : List UInt8) : GO 42 Tryd.f42 (A42 a2 a3 a4) (O42 a0 a1) call icall again = T42 call (fun s0 l1 i2 l3 i4 i5 l6 i7 i8 i9 i10 i11 i12 i13 => again (tdOf Tryd.f42 0) (K42_0 s0 l1 i2 l3 i4 i5 l6 i7 i8 i9 i10 i11 i12 i13)) a0 a1 a2 a3 a4 := by kernel_rfl
def L42 (call : FuncId → Fun) : Nat → (List UInt8 → List V → Int → List V → Int → Int → List V → Int → Int → Int → Int → Int → Int → Int → Option (V × List Ob))
 | 0 => fun _ _ _ _ _ _ _ _ _ _ _ _ _ _ => none
 | n + 1 => T42_0 call (L42 call n)
theorem R42 (call : FuncId → Fun) (icall : ICall (V × List Ob)) (a0 : List V) (a1 : Int) : ∀ n, (∀ (s0 : List UInt8) (l1 : List V) (i2 : Int) (l3 : List V) (i4 : Int) (i5 : Int) (l6 : List V) (i7 : Int) (i8 : Int) (i9 : Int) (i10 : Int) (i11 : Int) (i12 : Int) (i13 : Int), RN 42 Tryd.f42 (O42 a0 a1) call icall n (tdOf Tryd.f42 0) (K42_0 s0 l1 i2 l3 i4 i5 l6 i7 i8 i9 i10 i11 i12 i13) = (L42 call n) s0 l1 i2 l3 i4 i5 l6 i7 i8 i9 i10 i11 i12 i13)
  | 0 => fun s0 l1 i2 l3 i4 i5 l6 i7 i8 i9 i10 i11 i12 i13 => rfl
  | n + 1 => by
    have ih := R42 call icall a0 a1 n
    exact fun s0 l1 i2 l3 i4 i5 l6 i7 i8 i9 i10 i11 i12 i13 => (S42_0 call icall (RN 42 Tryd.f42 (O42 a0 a1) call icall n) a0 a1 s0 l1 i2 l3 i4 i5 l6 i7 i8 i9 i10 i11 i12 i13).trans (by rw [show (fun s0 l1 i2 l3 i4 i5 l6 i7 i8 i9 i10 i11 i12 i13 => RN 42 Tryd.f42 (O42 a0 a1) call icall n (tdOf Tryd.f42 0) (K42_0 s0 l1 i2 l3 i4 i5 l6 i7 i8 i9 i10 i11 i12 i13)) = (L42 call n) from (funext fun s0 => funext fun l1 => funext fun i2 => funext fun l3 => funext fun i4 => funext fun i5 => funext fun l6 => funext fun i7 => funext fun i8 => funext fun i9 => funext fun i10 => funext fun i11 => funext fun i12 => funext fun i13 => ih s0 l1 i2 l3 i4 i5 l6 i7 i8 i9 i10 i11 i12 i13)]; rfl)
theorem C42 (k : Nat) (a0 : List V) (a1 : Int) (a2 : Int) (a3 : Int) (a4 : List UInt8) : callN cfg (k + 1) 42 (A42 a2 a3 a4) (O42 a0 a1) = T42 (callN cfg k) (L42 (callN cfg k) k) a0 a1 a2 a3 a4 := by
 have ih := R42 (callN cfg k) (icallN cfg (callN cfg k) 20) a0 a1 k
 refine (show callN cfg (k + 1) 42 (A42 a2 a3 a4) (O42 a0 a1) = GO 42 Tryd.f42 (A42 a2 a3 a4) (O42 a0 a1) (callN cfg k) (icallN cfg (callN cfg k) 20) (RN 42 Tryd.f42 (O42 a0 a1) (callN cfg k) (icallN cfg (callN cfg k) 20) k) by kernel_rfl).trans ((E42 _ _ _ a0 a1 a2 a3 a4).trans ?_)
 rw [show (fun s0 l1 i2 l3 i4 i5 l6 i7 i8 i9 i10 i11 i12 i13 => RN 42 Tryd.f42 (O42 a0 a1) (callN cfg k) (icallN cfg (callN cfg k) 20) k (tdOf Tryd.f42 0) (K42_0 s0 l1 i2 l3 i4 i5 l6 i7 i8 i9 i10 i11 i12 i13)) = (L42 (callN cfg k) k) from (funext fun s0 => funext fun l1 => funext fun i2 => funext fun l3 => funext fun i4 => funext fun i5 => funext fun l6 => funext fun i7 => funext fun i8 => funext fun i9 => funext fun i10 => funext fun i11 => funext fun i12 => funext fun i13 => ih s0 l1 i2 l3 i4 i5 l6 i7 i8 i9 i10 i11 i12 i13)]
theorem M42 (a0 : List V) (a1 : Int) (a2 : Int) (a3 : Int) (a4 : List UInt8) {r : V × List Ob} (h : Evt (fun k n => T42 (callN cfg k) (L42 (callN cfg k) n) a0 a1 a2 a3 a4) r) : Ret 42 [V.ref 0 0, V.agg [V.int IntKind.i64 a2, V.int IntKind.i64 a3], V.str a4] [Ob.cells [V.lst 5 false a0, V.int IntKind.i64 a1]] r := ret_mk (g := fun k n => T42 (callN cfg k) (L42 (callN cfg k) n) a0 a1 a2 a3 a4) (fun k => C42 k a0 a1 a2 a3 a4) h
theorem N42_0 (s0 : List UInt8) (l1 : List V) (i2 : Int) (l3 : List V) (i4 : Int) (i5 : Int) (l6 : List V) (i7 : Int) (i8 : Int) (i9 : Int) (i10 : Int) (i11 : Int) (i12 : Int) (i13 : Int) {r : V × List Ob} (h : Evt (fun k n => T42_0 (callN cfg k) (L42 (callN cfg k) n) s0 l1 i2 l3 i4 i5 l6 i7 i8 i9 i10 i11 i12 i13) r) : Evt (fun k n => (L42 (callN cfg k) n) s0 l1 i2 l3 i4 i5 l6 i7 i8 i9 i10 i11 i12 i13) r := evt_step (fun k n => rfl) h
def T43_0 (call : FuncId → Fun) (ag0 : Int → Bool → List V → Int → Int → List V → Int → Int → Int → Int → Int → Int → List V → List V → Int → Int → Option (V × List Ob)) (i0 : Int) (b1 : Bool) (l2 : List V) (i3 : Int) (i4 : Int) (l5 : List V) (i6 : Int) (i7 : Int) (i8 : Int) (i9 : Int) (i10 : Int) (i11 : Int) (l12 : List V) (l13 : List V) (i14 : Int) (i15 : Int) : Option (V × List Ob) :=
 if (decide (i4 < i3)) = true then
 chk (decide (0 ≤ i4)) (chk (decide (i4 < ((length l2 : Nat) : Int))) (if (decide ((IntKind.wrap .i64 (i4 + (1 : Int))) < ((length l13 : Nat) : Int))) = true then
 chk (decide (0 ≤ (IntKind.wrap .i64 (i4 + (1 : Int))))) (chk (decide ((IntKind.wrap .i64 (i4 + (1 : Int))) < ((length l13 : Nat) : Int))) (Option.bind (call 31 [(V.ref 0 0), (V.agg [(V.int .i64 (getI (headD (tail (V.cells (getD l2 (Int.toNat i4) V.bot))) V.bot))), (V.int .i64 (if (getI (headD (tail (V.cells (getD l2 (Int.toNat i4) V.bot))) V.bot)) > (getI (headD (V.cells (getD l13 (Int.toNat (IntKind.wrap .i64 (i4 + (1 : Int)))) V.bot)) V.bot)) then (getI (headD (tail (V.cells (getD l2 (Int.toNat i4) V.bot))) V.bot)) else (getI (headD (V.cells (getD l13 (Int.toNat (IntKind.wrap .i64 (i4 + (1 : Int)))) V.bot)) V.bot))))]), (V.int .i64 i0), (V.bool b1)] [(Ob.cells [(V.lst 5 false l5), (V.int .i64 i6)])]) fun z0 =>
 chk (((length l12 : Nat) : Int) == ((length l12 : Nat) : Int)) (chk (appOk l12 [(V.agg [(V.int .i64 (getI (headD (V.cells z0.1) V.bot))), (V.int .i64 (getI (headD (tail (V.cells z0.1)) V.bot))), (V.int .i64 (getI (headD (tail (tail (V.cells z0.1))) V.bot))), (V.int .i64 (getI (headD (tail (tail (tail (V.cells z0.1)))) V.bot))), (V.int .i64 (getI (headD (tail (tail (tail (tail (V.cells z0.1))))) V.bot))), (V.lst 28 false (getL (headD (tail (tail (tail (tail (tail (V.cells z0.1)))))) V.bot))), (V.lst 24 false (getL (headD (tail (tail (tail (tail (tail (tail (V.cells z0.1))))))) V.bot))), (V.int .i64 (getI (headD (tail (tail (tail (tail (tail (tail (tail (V.cells z0.1)))))))) V.bot))), (V.int .i64 (getI (headD (tail (tail (tail (tail (tail (tail (tail (tail (V.cells z0.1))))))))) V.bot)))])] 105) ((ag0 (i0) (b1) (l2) (i3) ((IntKind.wrap .i64 (i4 + (1 : Int)))) ((getL (headD (Ob.getC (headD z0.2 Ob.dead)) V.bot))) ((getI (headD (tail (Ob.getC (headD z0.2 Ob.dead))) V.bot))) (i7) (i8) (i9) (i10) (i11) ((l12 ++ [(V.agg [(V.int .i64 (getI (headD (V.cells z0.1) V.bot))), (V.int .i64 (getI (headD (tail (V.cells z0.1)) V.bot))), (V.int .i64 (getI (headD (tail (tail (V.cells z0.1))) V.bot))), (V.int .i64 (getI (headD (tail (tail (tail (V.cells z0.1)))) V.bot))), (V.int .i64 (getI (headD (tail (tail (tail (tail (V.cells z0.1))))) V.bot))), (V.lst 28 false (getL (headD (tail (tail (tail (tail (tail (V.cells z0.1)))))) V.bot))), (V.lst 24 false (getL (headD (tail (tail (tail (tail (tail (tail (V.cells z0.1))))))) V.bot))), (V.int .i64 (getI (headD (tail (tail (tail (tail (tail (tail (tail (V.cells z0.1)))))))) V.bot))), (V.int .i64 (getI (headD (tail (tail (tail (tail (tail (tail (tail (tail (V.cells z0.1))))))))) V.bot)))])])) (l13) (i14) (i15))))))
 else
 Option.bind (call 31 [(V.ref 0 0), (V.agg [(V.int .i64 (getI (headD (tail (V.cells (getD l2 (Int.toNat i4) V.bot))) V.bot))), (V.int .i64 (if (getI (headD (tail (V.cells (getD l2 (Int.toNat i4) V.bot))) V.bot)) > i14 then (getI (headD (tail (V.cells (getD l2 (Int.toNat i4) V.bot))) V.bot)) else i14))]), (V.int .i64 i0), (V.bool b1)] [(Ob.cells [(V.lst 5 false l5), (V.int .i64 i6)])]) fun z0 =>
 chk (((length l12 : Nat) : Int) == ((length l12 : Nat) : Int)) (chk (appOk l12 [(V.agg [(V.int .i64 (getI (headD (V.cells z0.1) V.bot))), (V.int .i64 (getI (headD (tail (V.cells z0.1)) V.bot))), (V.int .i64 (getI (headD (tail (tail (V.cells z0.1))) V.bot))), (V.int .i64 (getI (headD (tail (tail (tail (V.cells z0.1)))) V.bot))), (V.int .i64 (getI (headD (tail (tail (tail (tail (V.cells z0.1))))) V.bot))), (V.lst 28 false (getL (headD (tail (tail (tail (tail (tail (V.cells z0.1)))))) V.bot))), (V.lst 24 false (getL (headD (tail (tail (tail (tail (tail (tail (V.cells z0.1))))))) V.bot))), (V.int .i64 (getI (headD (tail (tail (tail (tail (tail (tail (tail (V.cells z0.1)))))))) V.bot))), (V.int .i64 (getI (headD (tail (tail (tail (tail (tail (tail (tail (tail (V.cells z0.1))))))))) V.bot)))])] 105) ((ag0 (i0) (b1) (l2) (i3) ((IntKind.wrap .i64 (i4 + (1 : Int)))) ((getL (headD (Ob.getC (headD z0.2 Ob.dead)) V.bot))) ((getI (headD (tail (Ob.getC (headD z0.2 Ob.dead))) V.bot))) (i7) (i8) (i9) (i10) (i11) ((l12 ++ [(V.agg [(V.int .i64 (getI (headD (V.cells z0.1) V.bot))), (V.int .i64 (getI (headD (tail (V.cells z0.1)) V.bot))), (V.int .i64 (getI (headD (tail (tail (V.cells z0.1))) V.bot))), (V.int .i64 (getI (headD (tail (tail (tail (V.cells z0.1)))) V.bot))), (V.int .i64 (getI (headD (tail (tail (tail (tail (V.cells z0.1))))) V.bot))), (V.lst 28 false (getL (headD (tail (tail (tail (tail (tail (V.cells z0.1)))))) V.bot))), (V.lst 24 false (getL (headD (tail (tail (tail (tail (tail (tail (V.cells z0.1))))))) V.bot))), (V.int .i64 (getI (headD (tail (tail (tail (tail (tail (tail (tail (V.cells z0.1)))))))) V.bot))), (V.int .i64 (getI (headD (tail (tail (tail (tail (tail (tail (tail (tail (V.cells z0.1))))))))) V.bot)))])])) (l13) (i14) (i15))))))
 else
 some ((V.tup []), [(Ob.cells [(V.lst 5 false l5), (V.int .i64 i6)]), (Ob.cells [(V.int .i64 i7), (V.int .i64 i8), (V.int .i64 i9), (V.int .i64 i10), (V.int .i64 i11), (V.lst 28 true l12), (V.lst 24 false l13), (V.int .i64 i14), (V.int .i64 i15)])])
def T43 (call : FuncId → Fun) (ag0 : Int → Bool → List V → Int → Int → List V → Int → Int → Int → Int → Int → Int → List V → List V → Int → Int → Option (V × List Ob)) (a0 : List V) (a1 : Int) (a2 : Int) (a3 : Int) (a4 : Int) (a5 : Int) (a6 : Int) (a7 : List V) (a8 : List V) (a9 : Int) (a10 : Int) (a11 : Int) (a12 : Bool) : Option (V × List Ob) :=
 (ag0 (a11) (a12) (a8) (((length a8 : Nat) : Int)) ((0 : Int)) (a0) (a1) (a2) (a3) (a4) (a5) (a6) (a7) (a8) (a9) (a10))
def O43 (a0 : List V) (a1 : Int) (a2 : Int) (a3 : Int) (a4 : Int) (a5 : Int) (a6 : Int) (a7 : List V) (a8 : List V) (a9 : Int) (a10 : Int) : List Ob := [Ob.cells [V.lst 5 false a0, V.int IntKind.i64 a1], Ob.cells [V.int IntKind.i64 a2, V.int IntKind.i64 a3, V.int IntKind.i64 a4, V.int IntKind.i64 a5, V.int IntKind.i64 a6, V.lst 28 true a7, V.lst 24 false a8, V.int IntKind.i64 a9, V.int IntKind.i64 a10]]
def A43 (a11 : Int) (a12 : Bool) : List V := [V.ref 0 0, V.ref 1 0, V.int IntKind.i64 a11, V.bool a12]
def K43_0 (i0 : Int) (b1 : Bool) (l2 : List V) (i3 : Int) (i4 : Int) (l5 : List V) (i6 : Int) (i7 : Int) (i8 : Int) (i9 : Int) (i10 : Int) (i11 : Int) (l12 : List V) (l13 : List V) (i14 : Int) (i15 : Int) : St := ⟨[(V.ref 0 0), (V.ref 1 0), (V.int IntKind.i64 i0), (V.bool b1), V.bot, V.bot, V.bot, V.bot, V.bot, V.bot, V.bot, V.bot, V.bot, V.bot, (V.lst 24 false l2), (V.int IntKind.i64 i3), (V.int IntKind.i64 i4)] ++ List.replicate 48 V.bot, [(Ob.cells [(V.lst 5 false l5), (V.int IntKind.i64 i6)]), (Ob.cells [(V.int IntKind.i64 i7), (V.int IntKind.i64 i8), (V.int IntKind.i64 i9), (V.int IntKind.i64 i10), (V.int IntKind.i64 i11), (V.lst 28 true l12), (V.lst 24 false l13), (V.int IntKind.i64 i14), (V.int IntKind.i64 i15)])]⟩
theorem S43_0 (a0 : List V) (a1 : Int) (a2 : Int) (a3 : Int) (a4 : Int) (a5 : Int) (a6 : Int) (a7 : List V) (a8 : List V) (a9 : Int) (a10 : Int) (i0 : Int) (b1 : Bool) (l2 : List V) (i3 : Int) (i4 : Int) (l5 : List V) (i6 : Int) (i7 : Int) (i8 : Int) (i9 : Int) (i10 : Int) (i11 : Int) (l12 : List V) (l13 : List V) (i14 : Int) (i15 : Int) :
 RM 43 Tryd.f43 (O43 a0 a1 a2 a3 a4 a5 a6 a7 a8 a9 a10) call icall again (tdOf Tryd.f43 0) (K43_0 i0 b1 l2 i3 i4 l5 i6 i7 i8 i9 i10 i11 l12 l13 i14 i15) = T43_0 call (fun i0 b1 l2 i3 i4 l5 i6 i7 i8 i9 i10 i11 l12 l13 i14 i15 => again (tdOf Tryd.f43 0) (K43_0 i0 b1 l2 i3 i4 l5 i6 i7 i8 i9 i10 i11 l12 l13 i14 i15)) i0 b1 l2 i3 i4 l5 i6 i7 i8 i9 i10 i11 l12 l13 i14 i15 := by kernel_rfl
theorem E43 (a0 : List V) (a1 : Int) (a2 : Int) (a3 : Int) (a4 : Int) (a5 : Int) (a6 : Int) (a7 : List V) (a8 : List V) (a9 : Int) (a10 : Int) (a11 : Int) (a12 : Bool) : GO 43 Tryd.f43 (A43 a11 a12) (O43 a0 a1 a2 a3 a4 a5 a6 a7 a8 a9 a10) call icall again = T43 call (fun i0 b1 l2 i3 i4 l5 i6 i7 i8 i9 i10 i11 l12 l13 i14 i15 => again (tdOf Tryd.f43 0) (K43_0 i0 b1 l2 i3 i4 l5 i6 i7 i8 i9 i10 i11 l12 l13 i14 i15)) a0 a1 a2 a3 a4 a5 a6 a7 a8 a9 a10 a11 a12 := by kernel_rfl
def L43 (call : FuncId → Fun) : Nat → (Int → Bool → List V → Int → Int → List V → Int → Int → Int → Int → Int → Int → List V → List V → Int → Int → Option (V × List Ob))
 | 0 => fun _ _ _ _ _ _ _ _ _ _ _ _ _ _ _ _ => none
 | n + 1 => T43_0 call (L43 call n)
theorem R43 (call : FuncId → Fun) (icall : ICall (V × List Ob)) (a0 : List V) (a1 : Int) (a2 : Int) (a3 : Int) (a4 : Int) (a5 : Int) (a6 : Int) (a7 : List V) (a8 : List V) (a9 : Int) (a10 : Int) : ∀ n, (∀ (i0 : Int) (b1 : Bool) (l2 : List V) (i3 : Int) (i4 : Int) (l5 : List V) (i6 : Int) (i7 : Int) (i8 : Int) (i9 : Int) (i10 : Int) (i11 : Int) (l12 : List V) (l13 : List V) (i14 : Int) (i15 : Int), RN 43 Tryd.f43 (O43 a0 a1 a2 a3 a4 a5 a6 a7 a8 a9 a10) call icall n (tdOf Tryd.f43 0) (K43_0 i0 b1 l2 i3 i4 l5 i6 i7 i8 i9 i10 i11 l12 l13 i14 i15) = (L43 call n) i0 b1 l2 i3 i4 l5 i6 i7 i8 i9 i10 i11 l12 l13 i14 i15)
  | 0 => fun i0 b1 l2 i3 i4 l5 i6 i7 i8 i9 i10 i11 l12 l13 i14 i15 => rfl
  | n + 1 => by
    have ih := R43 call icall a0 a1 a2 a3 a4 a5 a6 a7 a8 a9 a10 n
    exact fun i0 b1 l2 i3 i4 l5 i6 i7 i8 i9 i10 i11 l12 l13 i14 i15 => (S43_0 call icall (RN 43 Tryd.f43 (O43 a0 a1 a2 a3 a4 a5 a6 a7 a8 a9 a10) call icall n) a0 a1 a2 a3 a4 a5 a6 a7 a8 a9 a10 i0 b1 l2 i3 i4 l5 i6 i7 i8 i9 i10 i11 l12 l13 i14 i15).trans (by rw [show (fun i0 b1 l2 i3 i4 l5 i6 i7 i8 i9 i10 i11 l12 l13 i14 i15 => RN 43 Tryd.f43 (O43 a0 a1 a2 a3 a4 a5 a6 a7 a8 a9 a10) call icall n (tdOf Tryd.f43 0) (K43_0 i0 b1 l2 i3 i4 l5 i6 i7 i8 i9 i10 i11 l12 l13 i14 i15)) = (L43 call n) from (funext fun i0 => funext fun b1 => funext fun l2 => funext fun i3 => funext fun i4 => funext fun l5 => funext fun i6 => funext fun i7 => funext fun i8 => funext fun i9 => funext fun i10 => funext fun i11 => funext fun l12 => funext fun l13 => funext fun i14 => funext fun i15 => ih i0 b1 l2 i3 i4 l5 i6 i7 i8 i9 i10 i11 l12 l13 i14 i15)]; rfl)
theorem C43 (k : Nat) (a0 : List V) (a1 : Int) (a2 : Int) (a3 : Int) (a4 : Int) (a5 : Int) (a6 : Int) (a7 : List V) (a8 : List V) (a9 : Int) (a10 : Int) (a11 : Int) (a12 : Bool) : callN cfg (k + 1) 43 (A43 a11 a12) (O43 a0 a1 a2 a3 a4 a5 a6 a7 a8 a9 a10) = T43 (callN cfg k) (L43 (callN cfg k) k) a0 a1 a2 a3 a4 a5 a6 a7 a8 a9 a10 a11 a12 := by
 have ih := R43 (callN cfg k) (icallN cfg (callN cfg k) 20) a0 a1 a2 a3 a4 a5 a6 a7 a8 a9 a10 k
 refine (show callN cfg (k + 1) 43 (A43 a11 a12) (O43 a0 a1 a2 a3 a4 a5 a6 a7 a8 a9 a10) = GO 43 Tryd.f43 (A43 a11 a12) (O43 a0 a1 a2 a3 a4 a5 a6 a7 a8 a9 a10) (callN cfg k) (icallN cfg (callN cfg k) 20) (RN 43 Tryd.f43 (O43 a0 a1 a2 a3 a4 a5 a6 a7 a8 a9 a10) (callN cfg k) (icallN cfg (callN cfg k) 20) k) by kernel_rfl).trans ((E43 _ _ _ a0 a1 a2 a3 a4 a5 a6 a7 a8 a9 a10 a11 a12).trans ?_)
 rw [show (fun i0 b1 l2 i3 i4 l5 i6 i7 i8 i9 i10 i11 l12 l13 i14 i15 => RN 43 Tryd.f43 (O43 a0 a1 a2 a3 a4 a5 a6 a7 a8 a9 a10) (callN cfg k) (icallN cfg (callN cfg k) 20) k (tdOf Tryd.f43 0) (K43_0 i0 b1 l2 i3 i4 l5 i6 i7 i8 i9 i10 i11 l12 l13 i14 i15)) = (L43 (callN cfg k) k) from (funext fun i0 => funext fun b1 => funext fun l2 => funext fun i3 => funext fun i4 => funext fun l5 => funext fun i6 => funext fun i7 => funext fun i8 => funext fun i9 => funext fun i10 => funext fun i11 => funext fun l12 => funext fun l13 => funext fun i14 => funext fun i15 => ih i0 b1 l2 i3 i4 l5 i6 i7 i8 i9 i10 i11 l12 l13 i14 i15)]
theorem M43 (a0 : List V) (a1 : Int) (a2 : Int) (a3 : Int) (a4 : Int) (a5 : Int) (a6 : Int) (a7 : List V) (a8 : List V) (a9 : Int) (a10 : Int) (a11 : Int) (a12 : Bool) {r : V × List Ob} (h : Evt (fun k n => T43 (callN cfg k) (L43 (callN cfg k) n) a0 a1 a2 a3 a4 a5 a6 a7 a8 a9 a10 a11 a12) r) : Ret 43 [V.ref 0 0, V.ref 1 0, V.int IntKind.i64 a11, V.bool a12] [Ob.cells [V.lst 5 false a0, V.int IntKind.i64 a1], Ob.cells [V.int IntKind.i64 a2, V.int IntKind.i64 a3, V.int IntKind.i64 a4, V.int IntKind.i64 a5, V.int IntKind.i64 a6, V.lst 28 true a7, V.lst 24 false a8, V.int IntKind.i64 a9, V.int IntKind.i64 a10]] r := ret_mk (g := fun k n => T43 (callN cfg k) (L43 (callN cfg k) n) a0 a1 a2 a3 a4 a5 a6 a7 a8 a9 a10 a11 a12) (fun k => C43 k a0 a1 a2 a3 a4 a5 a6 a7 a8 a9 a10 a11 a12) h
theorem N43_0 (i0 : Int) (b1 : Bool) (l2 : List V) (i3 : Int) (i4 : Int) (l5 : List V) (i6 : Int) (i7 : Int) (i8 : Int) (i9 : Int) (i10 : Int) (i11 : Int) (l12 : List V) (l13 : List V) (i14 : Int) (i15 : Int) {r : V × List Ob} (h : Evt (fun k n => T43_0 (callN cfg k) (L43 (callN cfg k) n) i0 b1 l2 i3 i4 l5 i6 i7 i8 i9 i10 i11 l12 l13 i14 i15) r) : Evt (fun k n => (L43 (callN cfg k) n) i0 b1 l2 i3 i4 l5 i6 i7 i8 i9 i10 i11 l12 l13 i14 i15) r := evt_step (fun k n => rfl) h
def T44 (call : FuncId → Fun) (a0 : List V) (a1 : Int) (a2 : List V) : Option (V × List Ob) :=
 Option.bind (call 64 [(V.lst 109 false a2), (V.str [99, 111, 110, 116, 101, 110, 116, 45, 116, 114, 97, 110, 115, 102, 101, 114, 45, 101, 110, 99, 111, 100, 105, 110, 103])] []) fun z0 =>
 if (!(getB (headD (tail (getT z0.1)) V.bot))) = true then
 some ((V.bool true), [(Ob.cells [(V.lst 5 false a0), (V.int .i64 a1)])])
 else
 Option.bind (call 66 [(V.lst 5 false a0), (V.agg [(V.str (getS (headD (V.cells (headD (getT z0.1) V.bot)) V.bot))), (V.int .i64 (getI (headD (tail (V.cells (headD (getT z0.1) V.bot))) V.bot))), (V.int .i64 (getI (headD (tail (tail (V.cells (headD (getT z0.1) V.bot)))) V.bot))), (V.int .i64 (getI (headD (tail (tail (tail (V.cells (headD (getT z0.1) V.bot))))) V.bot)))])] []) fun z1 =>
 Option.bind (call 65 [(V.str (getS z1.1))] []) fun z2 =>
 if (sEq (getS z2.1) [55, 98, 105, 116]) = true then
 some ((V.bool true), [(Ob.cells [(V.lst 5 false a0), (V.int .i64 a1)])])
 else
 if (sEq (getS z2.1) [56, 98, 105, 116]) = true then
 some ((V.bool true), [(Ob.cells [(V.lst 5 false a0), (V.int .i64 a1)])])
 else
 if (sEq (getS z2.1) [98, 105, 110, 97, 114, 121]) = true then
 some ((V.bool true), [(Ob.cells [(V.lst 5 false a0), (V.int .i64 a1)])])
 else
 some ((V.bool false), [(Ob.cells [(V.lst 5 false a0), (V.int .i64 a1)])])
def O44 (a0 : List V) (a1 : Int) : List Ob := [Ob.cells [V.lst 5 false a0, V.int IntKind.i64 a1]]
def A44 (a2 : List V) : List V := [V.ref 0 0, V.lst 109 false a2]
theorem E44 (a0 : List V) (a1 : Int) (a2 : List V) : GO 44 Tryd.f44 (A44 a2) (O44 a0 a1) call icall again = T44 call a0 a1 a2 := by kernel_rfl
theorem C44 (k : Nat) (a0 : List V) (a1 : Int) (a2 : List V) : callN cfg (k + 1) 44 (A44 a2) (O44 a0 a1) = T44 (callN cfg k) a0 a1 a2 :=
 (show callN cfg (k + 1) 44 (A44 a2) (O44 a0 a1) = GO 44 Tryd.f44 (A44 a2) (O44 a0 a1) (callN cfg k) (icallN cfg (callN cfg k) 20) (RN 44 Tryd.f44 (O44 a0 a1) (callN cfg k) (icallN cfg (callN cfg k) 20) k) by kernel_rfl).trans (E44 _ _ _ a0 a1 a2)
theorem M44 (a0 : List V) (a1 : Int) (a2 : List V) {r : V × List Ob} (h : Evt (fun k n => T44 (callN cfg k) a0 a1 a2) r) : Ret 44 [V.ref 0 0, V.lst 109 false a2] [Ob.cells [V.lst 5 false a0, V.int IntKind.i64 a1]] r := ret_mk (g := fun k n => T44 (callN cfg k) a0 a1 a2) (fun k => C44 k a0 a1 a2) h
def T31 (call : FuncId → Fun) (a0 : List V) (a1 : Int) (a2 : Int) (a3 : Int) (a4 : Int) (a5 : Bool) : Option (V × List Ob) :=
 Option.bind (call 39 [(V.lst 5 false a0), (V.agg [(V.int .i64 a2), (V.int .i64 a3)])] []) fun z0 =>
 if (a4 == (32 : Int)) = true then
 some ((V.agg [(V.int .i64 0), (V.int .i64 a2), (V.int .i64 (getI (headD (tail (getT z0.1)) V.bot))), (V.int .i64 (getI (headD (tail (getT z0.1)) V.bot))), (V.int .i64 a3), (V.lst 28 false []), (V.lst 24 false []), (V.int .i64 0), (V.int .i64 0)]), [(Ob.cells [(V.lst 5 false a0), (V.int .i64 a1)])])
 else
 Option.bind (call 40 [(V.ref 0 0), (V.lst 109 false (getL (headD (getT z0.1) V.bot))), (V.bool a5)] [(Ob.cells [(V.lst 5 false a0), (V.int .i64 a1)])]) fun z1 =>
 Option.bind (call 41 [(V.agg [(V.str (getS (headD (V.cells z1.1) V.bot))), (V.str (getS (headD (tail (V.cells z1.1)) V.bot))), (V.lst 116 false (getL (headD (tail (tail (V.cells z1.1))) V.bot)))]), (V.str [98, 111, 117, 110, 100, 97, 114, 121])] []) fun z2 =>
 Option.bind (if (sEq (getS (headD (V.cells z1.1) V.bot)) [109, 117, 108, 116, 105, 112, 97, 114, 116]) = true then
 if (!(sEq (getS (headD (getT z2.1) V.bot)) [])) = true then
 some (decide (((length (getS (headD (getT z2.1) V.bot)) : Nat) : Int) ≤ (70 : Int)))
 else
 some false
 else
 some false) fun y3 =>
 if y3 = true then
 Option.bind (call 42 [(V.ref 0 0), (V.agg [(V.int .i64 (getI (headD (tail (getT z0.1)) V.bot))), (V.int .i64 a3)]), (V.str (getS (headD (getT z2.1) V.bot)))] [(Ob.cells [(V.lst 5 false (getL (headD (Ob.getC (headD z1.2 Ob.dead)) V.bot))), (V.int .i64 (getI (headD (tail (Ob.getC (headD z1.2 Ob.dead))) V.bot)))])]) fun z4 =>
 Option.bind (if (getB (headD (tail (tail (getT z4.1))) V.bot)) = true then
 some (decide ((IntKind.wrap .i64 ((getI (headD (tail (Ob.getC (headD z4.2 Ob.dead))) V.bot)) + ((length (getL (headD (getT z4.1) V.bot)) : Nat) : Int))) ≤ (1000 : Int)))
 else
 some false) fun y5 =>
 if y5 = true then
 Option.bind (call 43 [(V.ref 0 0), (V.ref 1 0), (V.int .i64 (IntKind.wrap .i64 (a4 + (1 : Int)))), (V.bool (sEq (getS (headD (tail (V.cells z1.1)) V.bot)) [100, 105, 103, 101, 115, 116]))] [(Ob.cells [(V.lst 5 false (getL (headD (Ob.getC (headD z4.2 Ob.dead)) V.bot))), (V.int .i64 (IntKind.wrap .i64 ((getI (headD (tail (Ob.getC (headD z4.2 Ob.dead))) V.bot)) + ((length (getL (headD (getT z4.1) V.bot)) : Nat) : Int))))]), (Ob.cells [(V.int .i64 1), (V.int .i64 a2), (V.int .i64 (getI (headD (tail (getT z0.1)) V.bot))), (V.int .i64 (getI (headD (tail (getT z0.1)) V.bot))), (V.int .i64 a3), (V.lst 28 true []), (V.lst 24 false (getL (headD (getT z4.1) V.bot))), (V.int .i64 (getI (headD (V.cells (headD (tail (getT z4.1)) V.bot)) V.bot))), (V.int .i64 (getI (headD (tail (V.cells (headD (tail (getT z4.1)) V.bot))) V.bot)))])]) fun z6 =>
 some ((V.agg [(V.int .i64 (getI (headD (Ob.getC (headD (tail z6.2) Ob.dead)) V.bot))), (V.int .i64 (getI (headD (tail (Ob.getC (headD (tail z6.2) Ob.dead))) V.bot))), (V.int .i64 (getI (headD (tail (tail (Ob.getC (headD (tail z6.2) Ob.dead)))) V.bot))), (V.int .i64 (getI (headD (tail (tail (tail (Ob.getC (headD (tail z6.2) Ob.dead))))) V.bot))), (V.int .i64 (getI (headD (tail (tail (tail (tail (Ob.getC (headD (tail z6.2) Ob.dead)))))) V.bot))), (V.lst 28 false (getL (headD (tail (tail (tail (tail (tail (Ob.getC (headD (tail z6.2) Ob.dead))))))) V.bot))), (V.lst 24 false (getL (headD (tail (tail (tail (tail (tail (tail (Ob.getC (headD (tail z6.2) Ob.dead)))))))) V.bot))), (V.int .i64 (getI (headD (tail (tail (tail (tail (tail (tail (tail (Ob.getC (headD (tail z6.2) Ob.dead))))))))) V.bot))), (V.int .i64 (getI (headD (tail (tail (tail (tail (tail (tail (tail (tail (Ob.getC (headD (tail z6.2) Ob.dead)))))))))) V.bot)))]), [(Ob.cells [(V.lst 5 false (getL (headD (Ob.getC (headD z6.2 Ob.dead)) V.bot))), (V.int .i64 (getI (headD (tail (Ob.getC (headD z6.2 Ob.dead))) V.bot)))])])
 else
 some ((V.agg [(V.int .i64 0), (V.int .i64 a2), (V.int .i64 (getI (headD (tail (getT z0.1)) V.bot))), (V.int .i64 (getI (headD (tail (getT z0.1)) V.bot))), (V.int .i64 a3), (V.lst 28 false []), (V.lst 24 false []), (V.int .i64 0), (V.int .i64 0)]), [(Ob.cells [(V.lst 5 false (getL (headD (Ob.getC (headD z4.2 Ob.dead)) V.bot))), (V.int .i64 (getI (headD (tail (Ob.getC (headD z4.2 Ob.dead))) V.bot)))])])
 else
 if (sEq (getS (headD (V.cells z1.1) V.bot)) [109, 101, 115, 115, 97, 103, 101]) = true then
 if (sEq (getS (headD (tail (V.cells z1.1)) V.bot)) [114, 102, 99, 56, 50, 50]) = true then
 Option.bind (call 44 [(V.ref 0 0), (V.lst 109 false (getL (headD (getT z0.1) V.bot)))] [(Ob.cells [(V.lst 5 false (getL (headD (Ob.getC (headD z1.2 Ob.dead)) V.bot))), (V.int .i64 (getI (headD (tail (Ob.getC (headD z1.2 Ob.dead))) V.bot)))])]) fun z4 =>
 if (getB z4.1) = true then
 if (decide ((getI (headD (tail (Ob.getC (headD z4.2 Ob.dead))) V.bot)) < (1000 : Int))) = true then
 Option.bind (call 31 [(V.ref 0 0), (V.agg [(V.int .i64 (getI (headD (tail (getT z0.1)) V.bot))), (V.int .i64 a3)]), (V.int .i64 (IntKind.wrap .i64 (a4 + (1 : Int)))), (V.bool false)] [(Ob.cells [(V.lst 5 false (getL (headD (Ob.getC (headD z4.2 Ob.dead)) V.bot))), (V.int .i64 (IntKind.wrap .i64 ((getI (headD (tail (Ob.getC (headD z4.2 Ob.dead))) V.bot)) + (1 : Int))))])]) fun z5 =>
 some ((V.agg [(V.int .i64 2), (V.int .i64 a2), (V.int .i64 (getI (headD (tail (getT z0.1)) V.bot))), (V.int .i64 (getI (headD (tail (getT z0.1)) V.bot))), (V.int .i64 a3), (V.lst 28 false [(V.agg [(V.int .i64 (getI (headD (V.cells z5.1) V.bot))), (V.int .i64 (getI (headD (tail (V.cells z5.1)) V.bot))), (V.int .i64 (getI (headD (tail (tail (V.cells z5.1))) V.bot))), (V.int .i64 (getI (headD (tail (tail (tail (V.cells z5.1)))) V.bot))), (V.int .i64 (getI (headD (tail (tail (tail (tail (V.cells z5.1))))) V.bot))), (V.lst 28 false (getL (headD (tail (tail (tail (tail (tail (V.cells z5.1)))))) V.bot))), (V.lst 24 false (getL (headD (tail (tail (tail (tail (tail (tail (V.cells z5.1))))))) V.bot))), (V.int .i64 (getI (headD (tail (tail (tail (tail (tail (tail (tail (V.cells z5.1)))))))) V.bot))), (V.int .i64 (getI (headD (tail (tail (tail (tail (tail (tail (tail (tail (V.cells z5.1))))))))) V.bot)))])]), (V.lst 24 false []), (V.int .i64 0), (V.int .i64 0)]), [(Ob.cells [(V.lst 5 false (getL (headD (Ob.getC (headD z5.2 Ob.dead)) V.bot))), (V.int .i64 (getI (headD (tail (Ob.getC (headD z5.2 Ob.dead))) V.bot)))])])
 else
 some ((V.agg [(V.int .i64 0), (V.int .i64 a2), (V.int .i64 (getI (headD (tail (getT z0.1)) V.bot))), (V.int .i64 (getI (headD (tail (getT z0.1)) V.bot))), (V.int .i64 a3), (V.lst 28 false []), (V.lst 24 false []), (V.int .i64 0), (V.int .i64 0)]), [(Ob.cells [(V.lst 5 false (getL (headD (Ob.getC (headD z4.2 Ob.dead)) V.bot))), (V.int .i64 (getI (headD (tail (Ob.getC (headD z4.2 Ob.dead))) V.bot)))])])
 else
 some ((V.agg [(V.int .i64 0), (V.int .i64 a2), (V.int .i64 (getI (headD (tail (getT z0.1)) V.bot))), (V.int .i64 (getI (headD (tail (getT z0.1)) V.bot))), (V.int .i64 a3), (V.lst 28 false []), (V.lst 24 false []), (V.int .i64 0), (V.int .i64 0)]), [(Ob.cells [(V.lst 5 false (getL (headD (Ob.getC (headD z4.2 Ob.dead)) V.bot))), (V.int .i64 (getI (headD (tail (Ob.getC (headD z4.2 Ob.dead))) V.bot)))])])
 else
 some ((V.agg [(V.int .i64 0), (V.int .i64 a2), (V.int .i64 (getI (headD (tail (getT z0.1)) V.bot))), (V.int .i64 (getI (headD (tail (getT z0.1)) V.bot))), (V.int .i64 a3), (V.lst 28 false []), (V.lst 24 false []), (V.int .i64 0), (V.int .i64 0)]), [(Ob.cells [(V.lst 5 false (getL (headD (Ob.getC (headD z1.2 Ob.dead)) V.bot))), (V.int .i64 (getI (headD (tail (Ob.getC (headD z1.2 Ob.dead))) V.bot)))])])
 else
 some ((V.agg [(V.int .i64 0), (V.int .i64 a2), (V.int .i64 (getI (headD (tail (getT z0.1)) V.bot))), (V.int .i64 (getI (headD (tail (getT z0.1)) V.bot))), (V.int .i64 a3), (V.lst 28 false []), (V.lst 24 false []), (V.int .i64 0), (V.int .i64 0)]), [(Ob.cells [(V.lst 5 false (getL (headD (Ob.getC (headD z1.2 Ob.dead)) V.bot))), (V.int .i64 (getI (headD (tail (Ob.getC (headD z1.2 Ob.dead))) V.bot)))])])
def O31 (a0 : List V) (a1 : Int) : List Ob := [Ob.cells [V.lst 5 false a0, V.int IntKind.i64 a1]]
def A31 (a2 : Int) (a3 : Int) (a4 : Int) (a5 : Bool) : List V := [V.ref 0 0, V.agg [V.int IntKind.i64 a2, V.int IntKind.i64 a3], V.int IntKind.i64 a4, V.bool a5]
theorem E31 (a0 : List V) (a1 : Int) (a2 : Int) (a3 : Int) (a4 : Int) (a5 : Bool) : GO 31 Tryd.f31 (A31 a2 a3 a4 a5) (O31 a0 a1) call icall again = T31 call a0 a1 a2 a3 a4 a5 := by kernel_rfl
theorem C31 (k : Nat) (a0 : List V) (a1 : Int) (a2 : Int) (a3 : Int) (a4 : Int) (a5 : Bool) : callN cfg (k + 1) 31 (A31 a2 a3 a4 a5) (O31 a0 a1) = T31 (callN cfg k) a0 a1 a2 a3 a4 a5 :=
 (show callN cfg (k + 1) 31 (A31 a2 a3 a4 a5) (O31 a0 a1) = GO 31 Tryd.f31 (A31 a2 a3 a4 a5) (O31 a0 a1) (callN cfg k) (icallN cfg (callN cfg k) 20) (RN 31 Tryd.f31 (O31 a0 a1) (callN cfg k) (icallN cfg (callN cfg k) 20) k) by kernel_rfl).trans (E31 _ _ _ a0 a1 a2 a3 a4 a5)
theorem M31 (a0 : List V) (a1 : Int) (a2 : Int) (a3 : Int) (a4 : Int) (a5 : Bool) {r : V × List Ob} (h : Evt (fun k n => T31 (callN cfg k) a0 a1 a2 a3 a4 a5) r) : Ret 31 [V.ref 0 0, V.agg [V.int IntKind.i64 a2, V.int IntKind.i64 a3], V.int IntKind.i64 a4, V.bool a5] [Ob.cells [V.lst 5 false a0, V.int IntKind.i64 a1]] r := ret_mk (g := fun k n => T31 (callN cfg k) a0 a1 a2 a3 a4 a5) (fun k => C31 k a0 a1 a2 a3 a4 a5) h
def T15 (call : FuncId → Fun) (a0 : List V) : Option (V × List Ob) :=
 if (decide (((length a0 : Nat) : Int) > (67108864 : Int))) = true then
 some ((V.tup [(V.agg [(V.int .i64 0), (V.int .i64 0), (V.int .i64 0), (V.int .i64 0), (V.int .i64 0), (V.lst 28 false []), (V.lst 24 false []), (V.int .i64 0), (V.int .i64 0)]), (V.int .i64 13)]), [])
 else
 Option.bind (call 31 [(V.ref 0 0), (V.agg [(V.int .i64 0), (V.int .i64 ((length a0 : Nat) : Int))]), (V.int .i64 0), (V.bool false)] [(Ob.cells [(V.lst 5 false a0), (V.int .i64 1)])]) fun z0 =>
 some ((V.tup [(V.agg [(V.int .i64 (getI (headD (V.cells z0.1) V.bot))), (V.int .i64 (getI (headD (tail (V.cells z0.1)) V.bot))), (V.int .i64 (getI (headD (tail (tail (V.cells z0.1))) V.bot))), (V.int .i64 (getI (headD (tail (tail (tail (V.cells z0.1)))) V.bot))), (V.int .i64 (getI (headD (tail (tail (tail (tail (V.cells z0.1))))) V.bot))), (V.lst 28 false (getL (headD (tail (tail (tail (tail (tail (V.cells z0.1)))))) V.bot))), (V.lst 24 false (getL (headD (tail (tail (tail (tail (tail (tail (V.cells z0.1))))))) V.bot))), (V.int .i64 (getI (headD (tail (tail (tail (tail (tail (tail (tail (V.cells z0.1)))))))) V.bot))), (V.int .i64 (getI (headD (tail (tail (tail (tail (tail (tail (tail (tail (V.cells z0.1))))))))) V.bot)))]), (V.int .i64 0)]), [])
def A15 (a0 : List V) : List V := [V.lst 5 false a0]
theorem E15 (a0 : List V) : GO 15 Tryd.f15 (A15 a0) [] call icall again = T15 call a0 := by kernel_rfl
theorem C15 (k : Nat) (a0 : List V) : callN cfg (k + 1) 15 (A15 a0) [] = T15 (callN cfg k) a0 :=
 (show callN cfg (k + 1) 15 (A15 a0) [] = GO 15 Tryd.f15 (A15 a0) [] (callN cfg k) (icallN cfg (callN cfg k) 20) (RN 15 Tryd.f15 [] (callN cfg k) (icallN cfg (callN cfg k) 20) k) by kernel_rfl).trans (E15 _ _ _ a0)
theorem M15 (a0 : List V) {r : V × List Ob} (h : Evt (fun k n => T15 (callN cfg k) a0) r) : Ret 15 [V.lst 5 false a0] [] r := ret_mk (g := fun k n => T15 (callN cfg k) a0) (fun k => C15 k a0) h
def T17_0 (call : FuncId → Fun) (ag0 : Int → List V → Int → Int → Option (V × List Ob)) (i0 : Int) (l1 : List V) (i2 : Int) (i3 : Int) : Option (V × List Ob) :=
 if (decide (i3 < i2)) = true then
 chk (decide (0 ≤ i3)) (chk (decide (i3 < ((length l1 : Nat) : Int))) (Option.bind (call 17 [(V.agg [(V.int .i64 (getI (headD (V.cells (getD l1 (Int.toNat i3) V.bot)) V.bot))), (V.int .i64 (getI (headD (tail (V.cells (getD l1 (Int.toNat i3) V.bot))) V.bot))), (V.int .i64 (getI (headD (tail (tail (V.cells (getD l1 (Int.toNat i3) V.bot)))) V.bot))), (V.int .i64 (getI (headD (tail (tail (tail (V.cells (getD l1 (Int.toNat i3) V.bot))))) V.bot))), (V.int .i64 (getI (headD (tail (tail (tail (tail (V.cells (getD l1 (Int.toNat i3) V.bot)))))) V.bot))), (V.lst 28 false (getL (headD (tail (tail (tail (tail (tail (V.cells (getD l1 (Int.toNat i3) V.bot))))))) V.bot))), (V.lst 24 false (getL (headD (tail (tail (tail (tail (tail (tail (V.cells (getD l1 (Int.toNat i3) V.bot)))))))) V.bot))), (V.int .i64 (getI (headD (tail (tail (tail (tail (tail (tail (tail (V.cells (getD l1 (Int.toNat i3) V.bot))))))))) V.bot))), (V.int .i64 (getI (headD (tail (tail (tail (tail (tail (tail (tail (tail (V.cells (getD l1 (Int.toNat i3) V.bot)))))))))) V.bot)))])] []) fun z0 =>
 (ag0 ((IntKind.wrap .i64 (i0 + (getI z0.1)))) (l1) (i2) ((IntKind.wrap .i64 (i3 + (1 : Int)))))))
 else
 some ((V.int .i64 i0), [])
def T17 (call : FuncId → Fun) (ag0 : Int → List V → Int → Int → Option (V × List Ob)) (a0 : Int) (a1 : Int) (a2 : Int) (a3 : Int) (a4 : Int) (a5 : List V) (a6 : List V) (a7 : Int) (a8 : Int) : Option (V × List Ob) :=
 (ag0 ((1 : Int)) (a5) (((length a5 : Nat) : Int)) ((0 : Int)))
def A17 (a0 : Int) (a1 : Int) (a2 : Int) (a3 : Int) (a4 : Int) (a5 : List V) (a6 : List V) (a7 : Int) (a8 : Int) : List V := [V.agg [V.int IntKind.i64 a0, V.int IntKind.i64 a1, V.int IntKind.i64 a2, V.int IntKind.i64 a3, V.int IntKind.i64 a4, V.lst 28 false a5, V.lst 24 false a6, V.int IntKind.i64 a7, V.int IntKind.i64 a8]]
def K17_0 (i0 : Int) (l1 : List V) (i2 : Int) (i3 : Int) : St := ⟨[V.bot, V.bot, V.bot, (V.int IntKind.i64 i0), V.bot, V.bot, V.bot, (V.lst 28 false l1), (V.int IntKind.i64 i2), (V.int IntKind.i64 i3)] ++ List.replicate 9 V.bot, []⟩
theorem S17_0 (i0 : Int) (l1 : List V) (i2 : Int) (i3 : Int) :
 RM 17 Tryd.f17 [] call icall again (tdOf Tryd.f17 0) (K17_0 i0 l1 i2 i3) = T17_0 call (fun i0 l1 i2 i3 => again (tdOf Tryd.f17 0) (K17_0 i0 l1 i2 i3)) i0 l1 i2 i3 := by kernel_rfl
theorem E17 (a0 : Int) (a1 : Int) (a2 : Int) (a3 : Int) (a4 : Int) (a5 : List V) (a6 : List V) (a7 : Int) (a8 : Int) : GO 17 Tryd.f17 (A17 a0 a1 a2 a3 a4 a5 a6 a7 a8) [] call icall again = T17 call (fun i0 l1 i2 i3 => again (tdOf Tryd.f17 0) (K17_0 i0 l1 i2 i3)) a0 a1 a2 a3 a4 a5 a6 a7 a8 := by kernel_rfl
def L17 (call : FuncId → Fun) : Nat → (Int → List V → Int → Int → Option (V × List Ob))
 | 0 => fun _ _ _ _ => none
 | n + 1 => T17_0 call (L17 call n)
theorem R17 (call : FuncId → Fun) (icall : ICall (V × List Ob)) : ∀ n, (∀ (i0 : Int) (l1 : List V) (i2 : Int) (i3 : Int), RN 17 Tryd.f17 [] call icall n (tdOf Tryd.f17 0) (K17_0 i0 l1 i2 i3) = (L17 call n) i0 l1 i2 i3)
  | 0 => fun i0 l1 i2 i3 => rfl
  | n + 1 => by
    have ih := R17 call icall n
    exact fun i0 l1 i2 i3 => (S17_0 call icall (RN 17 Tryd.f17 [] call icall n) i0 l1 i2 i3).trans (by rw [show (fun i0 l1 i2 i3 => RN 17 Tryd.f17 [] call icall n (tdOf Tryd.f17 0) (K17_0 i0 l1 i2 i3)) = (L17 call n) from (funext fun i0 => funext fun l1 => funext fun i2 => funext fun i3 => ih i0 l1 i2 i3)]; rfl)
theorem C17 (k : Nat) (a0 : Int) (a1 : Int) (a2 : Int) (a3 : Int) (a4 : Int) (a5 : List V) (a6 : List V) (a7 : Int) (a8 : Int) : callN cfg (k + 1) 17 (A17 a0 a1 a2 a3 a4 a5 a6 a7 a8) [] = T17 (callN cfg k) (L17 (callN cfg k) k) a0 a1 a2 a3 a4 a5 a6 a7 a8 := by
 have ih := R17 (callN cfg k) (icallN cfg (callN cfg k) 20) k
 refine (show callN cfg (k + 1) 17 (A17 a0 a1 a2 a3 a4 a5 a6 a7 a8) [] = GO 17 Tryd.f17 (A17 a0 a1 a2 a3 a4 a5 a6 a7 a8) [] (callN cfg k) (icallN cfg (callN cfg k) 20) (RN 17 Tryd.f17 [] (callN cfg k) (icallN cfg (callN cfg k) 20) k) by kernel_rfl).trans ((E17 _ _ _ a0 a1 a2 a3 a4 a5 a6 a7 a8).trans ?_)
 rw [show (fun i0 l1 i2 i3 => RN 17 Tryd.f17 [] (callN cfg k) (icallN cfg (callN cfg k) 20) k (tdOf Tryd.f17 0) (K17_0 i0 l1 i2 i3)) = (L17 (callN cfg k) k) from (funext fun i0 => funext fun l1 => funext fun i2 => funext fun i3 => ih i0 l1 i2 i3)]
theorem M17 (a0 : Int) (a1 : Int) (a2 : Int) (a3 : Int) (a4 : Int) (a5 : List V) (a6 : List V) (a7 : Int) (a8 : Int) {r : V × List Ob} (h : Evt (fun k n => T17 (callN cfg k) (L17 (callN cfg k) n) a0 a1 a2 a3 a4 a5 a6 a7 a8) r) : Ret 17 [V.agg [V.int IntKind.i64 a0, V.int IntKind.i64 a1, V.int IntKind.i64 a2, V.int IntKind.i64 a3, V.int IntKind.i64 a4, V.lst 28 false a5, V.lst 24 false a6, V.int IntKind.i64 a7, V.int IntKind.i64 a8]] [] r := ret_mk (g := fun k n => T17 (callN cfg k) (L17 (callN cfg k) n) a0 a1 a2 a3 a4 a5 a6 a7 a8) (fun k => C17 k a0 a1 a2 a3 a4 a5 a6 a7 a8) h
theorem N17_0 (i0 : Int) (l1 : List V) (i2 : Int) (i3 : Int) {r : V × List Ob} (h : Evt (fun k n => T17_0 (callN cfg k) (L17 (callN cfg k) n) i0 l1 i2 i3) r) : Evt (fun k n => (L17 (callN cfg k) n) i0 l1 i2 i3) r := evt_step (fun k n => rfl) h
def T18_0 (call : FuncId → Fun) (ag0 : Int → List V → Int → Int → Option (V × List Ob)) (i0 : Int) (l1 : List V) (i2 : Int) (i3 : Int) : Option (V × List Ob) :=
 if (decide (i3 < i2)) = true then
 chk (decide (0 ≤ i3)) (chk (decide (i3 < ((length l1 : Nat) : Int))) (Option.bind (call 18 [(V.agg [(V.int .i64 (getI (headD (V.cells (getD l1 (Int.toNat i3) V.bot)) V.bot))), (V.int .i64 (getI (headD (tail (V.cells (getD l1 (Int.toNat i3) V.bot))) V.bot))), (V.int .i64 (getI (headD (tail (tail (V.cells (getD l1 (Int.toNat i3) V.bot)))) V.bot))), (V.int .i64 (getI (headD (tail (tail (tail (V.cells (getD l1 (Int.toNat i3) V.bot))))) V.bot))), (V.int .i64 (getI (headD (tail (tail (tail (tail (V.cells (getD l1 (Int.toNat i3) V.bot)))))) V.bot))), (V.lst 28 false (getL (headD (tail (tail (tail (tail (tail (V.cells (getD l1 (Int.toNat i3) V.bot))))))) V.bot))), (V.lst 24 false (getL (headD (tail (tail (tail (tail (tail (tail (V.cells (getD l1 (Int.toNat i3) V.bot)))))))) V.bot))), (V.int .i64 (getI (headD (tail (tail (tail (tail (tail (tail (tail (V.cells (getD l1 (Int.toNat i3) V.bot))))))))) V.bot))), (V.int .i64 (getI (headD (tail (tail (tail (tail (tail (tail (tail (tail (V.cells (getD l1 (Int.toNat i3) V.bot)))))))))) V.bot)))])] []) fun z0 =>
 (ag0 ((if (IntKind.wrap .i64 ((getI z0.1) + (1 : Int))) > i0 then (IntKind.wrap .i64 ((getI z0.1) + (1 : Int))) else i0)) (l1) (i2) ((IntKind.wrap .i64 (i3 + (1 : Int)))))))
 else
 some ((V.int .i64 i0), [])
def T18 (call : FuncId → Fun) (ag0 : Int → List V → Int → Int → Option (V × List Ob)) (a0 : Int) (a1 : Int) (a2 : Int) (a3 : Int) (a4 : Int) (a5 : List V) (a6 : List V) (a7 : Int) (a8 : Int) : Option (V × List Ob) :=
 (ag0 ((0 : Int)) (a5) (((length a5 : Nat) : Int)) ((0 : Int)))
def A18 (a0 : Int) (a1 : Int) (a2 : Int) (a3 : Int) (a4 : Int) (a5 : List V) (a6 : List V) (a7 : Int) (a8 : Int) : List V := [V.agg [V.int IntKind.i64 a0, V.int IntKind.i64 a1, V.int IntKind.i64 a2, V.int IntKind.i64 a3, V.int IntKind.i64 a4, V.lst 28 false a5, V.lst 24 false a6, V.int IntKind.i64 a7, V.int IntKind.i64 a8]]
def K18_0 (i0 : Int) (l1 : List V) (i2 : Int) (i3 : Int) : St := ⟨[V.bot, V.bot, V.bot, (V.int IntKind.i64 i0), V.bot, V.bot, V.bot, (V.lst 28 false l1), (V.int IntKind.i64 i2), (V.int IntKind.i64 i3)] ++ List.replicate 10 V.bot, []⟩
theorem S18_0 (i0 : Int) (l1 : List V) (i2 : Int) (i3 : Int) :
 RM 18 Tryd.f18 [] call icall again (tdOf Tryd.f18 0) (K18_0 i0 l1 i2 i3) = T18_0 call (fun i0 l1 i2 i3 => again (tdOf Tryd.f18 0) (K18_0 i0 l1 i2 i3)) i0 l1 i2 i3 := by kernel_rfl
theorem E18 (a0 : Int) (a1 : Int) (a2 : Int) (a3 : Int) (a4 : Int) (a5 : List V) (a6 : List V) (a7 : Int) (a8 : Int) : GO 18 Tryd.f18 (A18 a0 a1 a2 a3 a4 a5 a6 a7 a8) [] call icall again = T18 call (fun i0 l1 i2 i3 => again (tdOf Tryd.f18 0) (K18_0 i0 l1 i2 i3)) a0 a1 a2 a3 a4 a5 a6 a7 a8 := by kernel_rfl
def L18 (call : FuncId → Fun) : Nat → (Int → List V → Int → Int → Option (V × List Ob))
 | 0 => fun _ _ _ _ => none
 | n + 1 => T18_0 call (L18 call n)
theorem R18 (call : FuncId → Fun) (icall : ICall (V × List Ob)) : ∀ n, (∀ (i0 : Int) (l1 : List V) (i2 : Int) (i3 : Int), RN 18 Tryd.f18 [] call icall n (tdOf Tryd.f18 0) (K18_0 i0 l1 i2 i3) = (L18 call n) i0 l1 i2 i3)
  | 0 => fun i0 l1 i2 i3 => rfl
  | n + 1 => by
    have ih := R18 call icall n
    exact fun i0 l1 i2 i3 => (S18_0 call icall (RN 18 Tryd.f18 [] call icall n) i0 l1 i2 i3).trans (by rw [show (fun i0 l1 i2 i3 => RN 18 Tryd.f18 [] call icall n (tdOf Tryd.f18 0) (K18_0 i0 l1 i2 i3)) = (L18 call n) from (funext fun i0 => funext fun l1 => funext fun i2 => funext fun i3 => ih i0 l1 i2 i3)]; rfl)
theorem C18 (k : Nat) (a0 : Int) (a1 : Int) (a2 : Int) (a3 : Int) (a4 : Int) (a5 : List V) (a6 : List V) (a7 : Int) (a8 : Int) : callN cfg (k + 1) 18 (A18 a0 a1 a2 a3 a4 a5 a6 a7 a8) [] = T18 (callN cfg k) (L18 (callN cfg k) k) a0 a1 a2 a3 a4 a5 a6 a7 a8 := by
 have ih := R18 (callN cfg k) (icallN cfg (callN cfg k) 20) k
 refine (show callN cfg (k + 1) 18 (A18 a0 a1 a2 a3 a4 a5 a6 a7 a8) [] = GO 18 Tryd.f18 (A18 a0 a1 a2 a3 a4 a5 a6 a7 a8) [] (callN cfg k) (icallN cfg (callN cfg k) 20) (RN 18 Tryd.f18 [] (callN cfg k) (icallN cfg (callN cfg k) 20) k) by kernel_rfl).trans ((E18 _ _ _ a0 a1 a2 a3 a4 a5 a6 a7 a8).trans ?_)
 rw [show (fun i0 l1 i2 i3 => RN 18 Tryd.f18 [] (callN cfg k) (icallN cfg (callN cfg k) 20) k (tdOf Tryd.f18 0) (K18_0 i0 l1 i2 i3)) = (L18 (callN cfg k) k) from (funext fun i0 => funext fun l1 => funext fun i2 => funext fun i3 => ih i0 l1 i2 i3)]
theorem M18 (a0 : Int) (a1 : Int) (a2 : Int) (a3 : Int) (a4 : Int) (a5 : List V) (a6 : List V) (a7 : Int) (a8 : Int) {r : V × List Ob} (h : Evt (fun k n => T18 (callN cfg k) (L18 (callN cfg k) n) a0 a1 a2 a3 a4 a5 a6 a7 a8) r) : Ret 18 [V.agg [V.int IntKind.i64 a0, V.int IntKind.i64 a1, V.int IntKind.i64 a2, V.int IntKind.i64 a3, V.int IntKind.i64 a4, V.lst 28 false a5, V.lst 24 false a6, V.int IntKind.i64 a7, V.int IntKind.i64 a8]] [] r := ret_mk (g := fun k n => T18 (callN cfg k) (L18 (callN cfg k) n) a0 a1 a2 a3 a4 a5 a6 a7 a8) (fun k => C18 k a0 a1 a2 a3 a4 a5 a6 a7 a8) h
theorem N18_0 (i0 : Int) (l1 : List V) (i2 : Int) (i3 : Int) {r : V × List Ob} (h : Evt (fun k n => T18_0 (callN cfg k) (L18 (callN cfg k) n) i0 l1 i2 i3) r) : Evt (fun k n => (L18 (callN cfg k) n) i0 l1 i2 i3) r := evt_step (fun k n => rfl) h
end Go.Proofs.YtemgbdncidgoiaaDoor
end
section
namespace Go.Proofs.YtemgbdncidgoiaaDoor
open Go.Ev Go
def blankS (s : Bs) : Bool := trimF s == []
def delimF (text bd : Bs) : Bool × Bool :=
  if text.length < 2 + bd.length ∨ text.take (2 + bd.length) ≠ [45, 45] ++ bd then (false, false) else
  if blankS (text.drop (2 + bd.length)) then (true, false) else
  if 2 ≤ (text.drop (2 + bd.length)).length ∧ (text.drop (2 + bd.length)).take 2 = [45, 45] ∧ blankS ((text.drop (2 + bd.length)).drop 2) = true then (true, true) else (false, false)
theorem ret86 (s : Bs) (hs : s.length ≤ 1000000) : Ret 86 [.str s] [] (.bool (blankS s), []) := by
  refine M86 s ?_
  simp only [T86]
  refine evt_bind (ret87 s (by omega)) ?_
  exact evt_some _
theorem ret63 (text bd : Bs) (ht : text.length ≤ 1000000) (hb : bd.length ≤ 1000000) : Ret 63 [.str text, .str bd] [] (.tup [.bool (delimF text bd).1, .bool (delimF text bd).2], []) := by
  refine M63 text bd ?_
  have hw : IntKind.wrap .i64 ((2 : Int) + (bd.length : Int)) = ((2 + bd.length : Nat) : Int) := by rw [wrap64 (by omega) (by omega)]; omega
  have h0 : (0 : Int) ≤ ((2 + bd.length : Nat) : Int) := by omega
  have hc : catOk [45, 45] bd = true := cat_ok (by simp; omega)
  simp only [T63, hw]
  unfold delimF
  by_cases h1 : text.length < 2 + bd.length
  · have h1' : (text.length : Int) < ((2 + bd.length : Nat) : Int) := by omega
    simp only [h1', decide_true, Bool.true_eq_false, if_false, bind_s, if_true, h1, true_or]
    exact evt_some _
  · have h1' : ¬ ((text.length : Int) < ((2 + bd.length : Nat) : Int)) := by omega
    have h2 : ((2 + bd.length : Nat) : Int) ≤ (text.length : Int) := by omega
    simp only [h1', decide_false, if_true, chk_p h0, chk_p h2, chk_p (show (0 : Int) ≤ 0 by omega), chk_b hc, Int.toNat_zero, Int.toNat_natCast, List.drop_zero, bind_s, h1, false_or]
    by_cases h3 : text.take (2 + bd.length) = [45, 45] ++ bd
    · have h3' : sEq (text.take (2 + bd.length)) ([45, 45] ++ bd) = true := by simp [sEq, h3]
      simp only [h3', Bool.not_true, Bool.false_eq_true, if_false]
      simp only [h3, ne_eq, not_true_eq_false, if_false]
      have hr : (text.drop (2 + bd.length)).length ≤ 1000000 := by simp; omega
      obtain ⟨rest, hrest⟩ : ∃ rest, text.drop (2 + bd.length) = rest := ⟨_, rfl⟩
      simp only [hrest] at hr ⊢
      refine evt_bind (ret86 rest hr) ?_
      simp only [V.getB]
      by_cases h4 : blankS rest = true
      · simp only [h4, if_true]; exact evt_some _
      · have h4' : blankS rest = false := by simpa using h4
        simp only [h4', Bool.false_eq_true, if_false]
        by_cases h5 : 2 ≤ rest.length
        · have h5' : ((rest.length : Int) ≥ (2 : Int)) := by omega
          have h5'' : ((2 : Int) ≤ (rest.length : Int)) := by omega
          simp only [h5', decide_true, if_true, chk_p (show (0 : Int) ≤ 2 by omega), chk_p h5'', chk_p (show (0 : Int) ≤ 0 by omega), Int.toNat_zero, List.drop_zero, h5, true_and, show Int.toNat 2 = 2 from rfl, chk_t]
          by_cases h6 : rest.take 2 = [45, 45]
          · have h6' : sEq (rest.take 2) [45, 45] = true := by simp [sEq, h6]
            simp only [h6', if_true, h6, true_and]
            refine evt_bind (ret86 (rest.drop 2) (by simp; omega)) ?_
            simp only [V.getB]
            by_cases h7 : blankS (rest.drop 2) = true
            · simp only [h7, if_true]; exact evt_some _
            · have h7' : blankS (rest.drop 2) = false := by simpa using h7
              simp only [h7', Bool.false_eq_true, if_false]; exact evt_some _
          · have h6' : sEq (rest.take 2) [45, 45] = false := by simp [sEq, h6]
            simp only [h6', Bool.false_eq_true, if_false, h6, false_and]; exact evt_some _
        · have h5' : ¬ ((rest.length : Int) ≥ (2 : Int)) := by omega
          simp only [h5', decide_false, Bool.false_eq_true, if_false, h5, false_and]; exact evt_some _
    · have h3' : sEq (text.take (2 + bd.length)) ([45, 45] ++ bd) = false := beq_eq_false_iff_ne.2 h3
      simp only [h3', Bool.not_false, if_true]
      simp only [h3, ne_eq, not_false_eq_true, if_true]
      exact evt_some _
end Go.Proofs.YtemgbdncidgoiaaDoor
end
section
namespace Go.Proofs.YtemgbdncidgoiaaDoor
open Go.Ev Go
def cutsG (b bd : Bs) : List Ln → List (Nat × Nat) → Nat → List (Nat × Nat) × Option (Nat × Nat)
  | [], out, _ => (out, none)
  | l :: r, out, from_ =>
    if (delimF (lineT b l) bd).1 = false then cutsG b bd r out l.2.1
    else if (delimF (lineT b l) bd).2 then (out, some (from_, l.2.2)) else cutsG b bd r (out ++ [(from_, l.2.2)]) l.2.2
def cutsF (b : Bs) (fr to : Nat) (bd : Bs) : List (Nat × Nat) × (Nat × Nat) := ((cutsG b bd (linesOf fr to b) [] fr).1, (cutsG b bd (linesOf fr to b) [] fr).2.getD (to, to))
def objB (b : Bs) (n : Int) : List Ob := [.cells [.lst 5 false (ofBytes b), .int .i64 n]]
theorem loop42 (b bd : Bs) (hb : b.length ≤ 1000000) (hbd : bd.length ≤ 1000000) (nn : Int) (l : List Ln) (hl : l.length ≤ 1000000) (c d e f : Int) (fr to : Nat) : ∀ (n i : Nat) (out : List (Nat × Nat)) (from_ : Nat), l.length - i = n → i ≤ l.length → out.length ≤ i →
    Evt (fun k j => L42 (callN cfg k) j bd (out.map cutV) (from_ : Nat) (l.map lnV) (l.length : Nat) (i : Nat) (ofBytes b) nn c d e f (to : Nat) (to : Nat))
      (.tup [.lst 24 false ((cutsG b bd (l.drop i) out from_).1.map cutV), cutV ((cutsG b bd (l.drop i) out from_).2.getD (to, to)), .bool (decide (0 < (cutsG b bd (l.drop i) out from_).1.length))], objB b nn)
  | 0, i, out, from_, h, hi, ho => by
    refine N42_0 bd (out.map cutV) (from_ : Nat) (l.map lnV) (l.length : Nat) (i : Nat) (ofBytes b) nn c d e f (to : Nat) (to : Nat) ?_
    have h1 : ¬ ((i : Int) < (l.length : Int)) := by omega
    have h2 : decide ((((out.map cutV).length : Nat) : Int) > (0 : Int)) = decide (0 < out.length) := by simp
    rw [List.drop_eq_nil_of_le (by omega)]
    simp only [T42_0, h1, decide_false, Bool.false_eq_true, if_false, cutsG, h2]
    exact evt_some _
  | n + 1, i, out, from_, h, hi, ho => by
    have hlt : i < l.length := by omega
    refine N42_0 bd (out.map cutV) (from_ : Nat) (l.map lnV) (l.length : Nat) (i : Nat) (ofBytes b) nn c d e f (to : Nat) (to : Nat) ?_
    have h1 : ((i : Int) < (l.length : Int)) := by omega
    have h2 : (0 : Int) ≤ (i : Int) := by omega
    have hw : IntKind.wrap .i64 ((i : Int) + 1) = ((i + 1 : Nat) : Int) := by rw [wrap64 (by omega) (by omega)]; omega
    have hd : l.drop i = l[i] :: l.drop (i + 1) := List.drop_eq_getElem_cons hlt
    have htl := lineT_le b l[i]
    have h57 : Ret 57 [.lst 5 false (ofBytes b), .agg [.int .i64 (l[i].1 : Nat), .int .i64 (l[i].2.1 : Nat), .int .i64 (l[i].2.2 : Nat)]] [] (.str (lineT b l[i]), []) := ret57 b l[i]
    rw [hd, cutsG]
    simp only [T42_0, h1, decide_true, if_true, chk_p h2, List.length_map, chk_t, Int.toNat_natCast, getD_ln hlt, lnV, V.cells, List.headD_cons, List.tail_cons, V.getI, hw]
    refine evt_bind h57 ?_
    simp only [V.getS]
    refine evt_bind (ret63 (lineT b l[i]) bd (by omega) hbd) ?_
    simp only [V.getT, List.headD_cons, List.tail_cons, V.getB]
    cases hd1 : (delimF (lineT b l[i]) bd).1 with
    | false =>
      simp only [Bool.not_false, if_true]
      exact loop42 b bd hb hbd nn l hl c d e f fr to n (i + 1) out l[i].2.1 (by omega) (by omega) (by omega)
    | true =>
      simp only [Bool.not_true, Bool.false_eq_true, if_false, Bool.true_eq_false]
      cases hd2 : (delimF (lineT b l[i]) bd).2 with
      | true =>
        have h3 : decide (((out.length : Nat) : Int) > (0 : Int)) = decide (0 < out.length) := by simp
        simp only [if_true, h3]
        exact evt_some _
      | false =>
        have hap : appOk (out.map cutV) [V.agg [.int .i64 (from_ : Nat), .int .i64 (l[i].2.2 : Nat)]] 17 = true := app_ok (by simp; omega)
        simp only [Bool.false_eq_true, if_false, chk_b hap]
        have := loop42 b bd hb hbd nn l hl c d e f fr to n (i + 1) (out ++ [(from_, l[i].2.2)]) l[i].2.2 (by omega) (by omega) (by simp; omega)
        simp only [List.map_append, List.map_cons, List.map_nil, cutV] at this
        exact this
theorem ret42 (b bd : Bs) (hb : b.length ≤ 1000000) (hbd : bd.length ≤ 1000000) (nn : Int) (fr to : Nat) :
    Ret 42 [.ref 0 0, .agg [.int .i64 (fr : Nat), .int .i64 (to : Nat)], .str bd] (objB b nn)
      (.tup [.lst 24 false ((cutsF b fr to bd).1.map cutV), cutV (cutsF b fr to bd).2, .bool (decide (0 < (cutsF b fr to bd).1.length))], objB b nn) := by
  refine M42 (ofBytes b) nn (fr : Nat) (to : Nat) bd ?_
  simp only [T42]
  refine evt_bind (ret55 b hb (fr : Nat) (to : Nat)) ?_
  have h1 := linesOf_length fr to b
  simp only [V.getL, List.length_map]
  exact loop42 b bd hb hbd nn (linesOf fr to b) (by omega) (fr : Nat) (to : Nat) 0 0 fr to (linesOf fr to b).length 0 [] fr (by omega) (by omega) (by simp)
def ctB : Bs := [99, 111, 110, 116, 101, 110, 116, 45, 116, 121, 112, 101]
def cteB : Bs := [99, 111, 110, 116, 101, 110, 116, 45, 116, 114, 97, 110, 115, 102, 101, 114, 45, 101, 110, 99, 111, 100, 105, 110, 103]
def kindF (b : Bs) (l : List Fd) (digest : Bool) : Bs × Bs × Ps :=
  match parseF (valueF b l ctB) true with
  | some p => p
  | none => if digest then ([109, 101, 115, 115, 97, 103, 101], [114, 102, 99, 56, 50, 50], []) else ([116, 101, 120, 116], [112, 108, 97, 105, 110], [])
theorem ret40 (b : Bs) (hb : b.length ≤ 1000000) (l : List Fd) (hl : l.length ≤ 1000000) (hv : ∀ f ∈ l, f.1.length ≤ 1000000) (digest : Bool) (nn : Int) :
    Ret 40 [.ref 0 0, .lst 109 false (l.map fdV), .bool digest] (objB b nn)
      (.agg [.str (kindF b l digest).1, .str (kindF b l digest).2.1, .lst 116 false ((kindF b l digest).2.2.map pV)], objB b nn) := by
  refine M40 (ofBytes b) nn (l.map fdV) digest ?_
  simp only [T40]
  refine evt_bind (ret61 b hb l hl hv ctB (by simp [ctB])) ?_
  have hle := valueF_le b l ctB
  simp only [V.getS]
  refine evt_bind (ret60 (valueF b l ctB) (by omega) true) ?_
  unfold kindF
  cases parseF (valueF b l ctB) true with
  | some p =>
    obtain ⟨t, u, ps⟩ := p
    simp only [parseV, V.getT, List.tail_cons, List.headD_cons, V.getB, if_true, V.cells, V.getS, V.getL]
    exact evt_some _
  | none =>
    simp only [parseV, V.getT, List.tail_cons, List.headD_cons, V.getB, Bool.false_eq_true, if_false]
    cases digest with
    | true => simp only [if_true]; exact evt_some _
    | false => simp only [Bool.false_eq_true, if_false]; exact evt_some _
def noneF (b : Bs) (l : List Fd) : Bool :=
  match findFd l cteB with
  | none => true
  | some f => low (bodyF b f) == [55, 98, 105, 116] || (low (bodyF b f) == [56, 98, 105, 116] || low (bodyF b f) == [98, 105, 110, 97, 114, 121])
theorem ret44 (b : Bs) (hb : b.length ≤ 1000000) (l : List Fd) (hl : l.length ≤ 1000000) (hv : ∀ f ∈ l, f.1.length ≤ 1000000) (nn : Int) :
    Ret 44 [.ref 0 0, .lst 109 false (l.map fdV)] (objB b nn) (.bool (noneF b l), objB b nn) := by
  refine M44 (ofBytes b) nn (l.map fdV) ?_
  simp only [T44]
  refine evt_bind (ret64 l hl hv cteB (by simp [cteB])) ?_
  unfold noneF
  cases findFd l cteB with
  | none =>
    simp only [fdTold, V.getT, List.tail_cons, List.headD_cons, V.getB, Bool.not_false, if_true]
    exact evt_some _
  | some f =>
    have h66 : Ret 66 [.lst 5 false (ofBytes b), .agg [.str f.1, .int .i64 f.2.1, .int .i64 f.2.2.1, .int .i64 f.2.2.2]] [] (.str (bodyF b f), []) := ret66 b hb f
    have hle := bodyF_le b f
    simp only [fdTold, V.getT, List.tail_cons, List.headD_cons, V.getB, Bool.not_true, Bool.false_eq_true, if_false, fdV, V.cells, V.getS, V.getI]
    refine evt_bind h66 ?_
    simp only [V.getS]
    refine evt_bind (ret65 (bodyF b f) (by omega)) ?_
    simp only [V.getS, sEq]
    unfold low
    by_cases h1 : ((bodyF b f).map low8 == [55, 98, 105, 116]) = true
    · simp only [h1, if_true, Bool.true_or]; exact evt_some _
    · have h1' : ((bodyF b f).map low8 == [55, 98, 105, 116]) = false := Bool.eq_false_iff.2 h1
      simp only [h1', Bool.false_eq_true, if_false, Bool.false_or]
      by_cases h2 : ((bodyF b f).map low8 == [56, 98, 105, 116]) = true
      · simp only [h2, if_true, Bool.true_or]; exact evt_some _
      · have h2' : ((bodyF b f).map low8 == [56, 98, 105, 116]) = false := Bool.eq_false_iff.2 h2
        simp only [h2', Bool.false_eq_true, if_false, Bool.false_or]
        by_cases h3 : ((bodyF b f).map low8 == [98, 105, 110, 97, 114, 121]) = true
        · simp only [h3, if_true]; exact evt_some _
        · have h3' : ((bodyF b f).map low8 == [98, 105, 110, 97, 114, 121]) = false := Bool.eq_false_iff.2 h3
          simp only [h3', Bool.false_eq_true, if_false]; exact evt_some _
end Go.Proofs.YtemgbdncidgoiaaDoor
end
section
namespace Go.Proofs.YtemgbdncidgoiaaDoor
open Go.Ev Go
def leafP (fr at_ to : Nat) : Pt := .mk 0 (fr, at_) (at_, to) [] [] (0, 0)
def bdB : Bs := [98, 111, 117, 110, 100, 97, 114, 121]
def mpB : Bs := [109, 117, 108, 116, 105, 112, 97, 114, 116]
def msgB : Bs := [109, 101, 115, 115, 97, 103, 101]
def rfcB : Bs := [114, 102, 99, 56, 50, 50]
def dgB : Bs := [100, 105, 103, 101, 115, 116]
def nextF (fin : Nat) : List (Nat × Nat) → Nat
  | [] => fin
  | d :: _ => d.1
def kidsF (ent : Nat → Nat → Nat → Pt × Nat) (fin : Nat) : List (Nat × Nat) → Nat → List Pt × Nat
  | [], n => ([], n)
  | c :: r, n =>
    ((ent c.2 (max (nextF fin r) c.2) n).1 :: (kidsF ent fin r (ent c.2 (max (nextF fin r) c.2) n).2).1, (kidsF ent fin r (ent c.2 (max (nextF fin r) c.2) n).2).2)
def entF (b : Bs) : Nat → Nat → Nat → Bool → Nat → Pt × Nat
  | 0, fr, to, _, n => (leafP fr (headF b fr to).2.toNat to, n)
  | d + 1, fr, to, dg, n =>
    let at_ := (headF b fr to).2.toNat
    let v := kindF b (headF b fr to).1 dg
    let bd := (getF v.2.2 bdB).getD []
    if v.1 = mpB ∧ bd ≠ [] ∧ bd.length ≤ 70 then
      let c := cutsF b at_ to bd
      if 0 < c.1.length ∧ n + c.1.length ≤ 1000 then
        let q := kidsF (fun fr to n => entF b d fr to (v.2.1 == dgB) n) c.2.1 c.1 (n + c.1.length)
        (.mk 1 (fr, at_) (at_, to) q.1 c.1 c.2, q.2)
      else (leafP fr at_ to, n)
    else if v.1 = msgB ∧ v.2.1 = rfcB ∧ noneF b (headF b fr to).1 = true ∧ n < 1000 then
      let k := entF b d at_ to false (n + 1)
      (.mk 2 (fr, at_) (at_, to) [k.1] [] (0, 0), k.2)
    else (leafP fr at_ to, n)
def FdOk (m : Nat) (f : Fd) : Prop := f.1.length ≤ m
theorem namedF_name {s : Bs} {p : Bs × Nat} (h : namedF s = some p) : p.1.length ≤ s.length := by
  unfold namedF at h
  split at h
  · cases h
  · split at h
    · cases h; simp only [List.length_take]; omega
    · cases h
theorem stepH_ok (b : Bs) (st : List Fd × Bool) (x : Ln) (h : ∀ f ∈ st.1, FdOk b.length f) : (∀ f ∈ (stepH b st x).1, FdOk b.length f) ∧ (stepH b st x).1.length ≤ st.1.length + 1 := by
  unfold stepH
  split
  · split
    · refine ⟨fun f hf => ?_, by simp only [setTo_length]; omega⟩
      unfold setTo at hf
      split at hf
      · rename_i g hg
        rcases List.mem_or_eq_of_mem_set hf with hf | rfl
        · exact h f hf
        · exact h g (List.mem_of_getElem? hg)
      · exact h f hf
    · exact ⟨h, by omega⟩
  · split
    · exact ⟨h, by simp⟩
    · rename_i p hp
      refine ⟨fun f hf => ?_, by simp⟩
      rw [List.mem_append] at hf
      rcases hf with hf | hf
      · exact h f hf
      · simp at hf; subst hf
        exact Nat.le_trans (namedF_name hp) (lineT_le b x)
theorem foldH_ok (b : Bs) : ∀ (l : List Ln) (st : List Fd × Bool), (∀ f ∈ st.1, FdOk b.length f) → (∀ f ∈ (l.foldl (stepH b) st).1, FdOk b.length f) ∧ (l.foldl (stepH b) st).1.length ≤ st.1.length + l.length
  | [], st, h => ⟨h, by simp⟩
  | x :: r, st, h => by
    obtain ⟨h1, h2⟩ := stepH_ok b st x h
    obtain ⟨h3, h4⟩ := foldH_ok b r (stepH b st x) h1
    exact ⟨h3, by simp only [List.foldl_cons, List.length_cons] at h4 ⊢; omega⟩
theorem headF_ok (b : Bs) (fr to : Int) : (∀ f ∈ (headF b fr to).1, f.1.length ≤ b.length) ∧ (headF b fr to).1.length ≤ b.length := by
  have hl := linesOf_length fr to b
  unfold headF
  split
  · simp
  · split
    · rename_i k hk
      obtain ⟨h1, h2⟩ := foldH_ok b ((linesOf fr to b).take k) ([], false) (by simp)
      exact ⟨h1, by simp at h2 ⊢; omega⟩
    · obtain ⟨h1, h2⟩ := foldH_ok b (linesOf fr to b) ([], false) (by simp)
      exact ⟨h1, by simp at h2 ⊢; omega⟩
theorem headF_at (b : Bs) (fr to : Nat) : (((headF b fr to).2.toNat : Nat) : Int) = (headF b fr to).2 := by
  unfold headF
  split
  · simp
  · split <;> simp
end Go.Proofs.YtemgbdncidgoiaaDoor
end
section
namespace Go.Proofs.YtemgbdncidgoiaaDoor
open Go.Ev Go
theorem parP_small (l : Ps) (m : Nat) : ∀ (q : Ps) (seen : List Bs), (∀ p ∈ q, p.1.length ≤ m) → (parP l seen q).length ≤ q.length ∧ ∀ p ∈ parP l seen q, p.1.length ≤ m
  | [], seen, _ => by simp [parP]
  | p :: r, seen, h => by
    have hp := h p (by simp)
    have hb := baseF_le p.1
    have ih := fun seen => parP_small l m r seen fun p hp => h p (by simp [hp])
    unfold parP
    split
    · obtain ⟨h1, h2⟩ := ih seen
      exact ⟨by simp; omega, h2⟩
    · split
      · obtain ⟨h1, h2⟩ := ih (baseF p.1 :: seen)
        refine ⟨by simp; omega, fun x hx => ?_⟩
        rcases List.mem_cons.1 hx with rfl | hx
        · simp only; omega
        · exact h2 x hx
      · obtain ⟨h1, h2⟩ := ih (baseF p.1 :: seen)
        exact ⟨by simp; omega, h2⟩
theorem parseF_small {s : Bs} {two : Bool} {t u : Bs} {ps : Ps} (h : parseF s two = some (t, u, ps)) : ps.length ≤ s.length ∧ ∀ p ∈ ps, p.1.length ≤ s.length := by
  have key : ∀ q : Bs, q.length ≤ s.length → (parP (pairsF q) [] (pairsF q)).length ≤ s.length ∧ ∀ p ∈ parP (pairsF q) [] (pairsF q), p.1.length ≤ s.length := by
    intro q hq
    obtain ⟨g1, g2⟩ := pairsF_small q.length q (Nat.le_refl _)
    obtain ⟨h1, h2⟩ := parP_small (pairsF q) s.length (pairsF q) [] fun p hp => by have := g2 p hp; omega
    exact ⟨by omega, h2⟩
  have h0 := skipF_le s
  have h1 := tokF_le (skipF s)
  unfold parseF at h
  split at h
  · cases h
  · split at h
    · split at h
      · cases h
      · rename_i s2 hs2
        split at h
        · cases h
        · cases h
          have h2 := byteF_le hs2
          have h3 := tokF_le s2
          exact key _ (by omega)
    · cases h
      exact key _ (by omega)
theorem kindF_small (b : Bs) (l : List Fd) (dg : Bool) : (kindF b l dg).2.2.length ≤ b.length ∧ ∀ p ∈ (kindF b l dg).2.2, p.1.length ≤ b.length := by
  have hv := valueF_le b l ctB
  unfold kindF
  split
  · rename_i p hp
    obtain ⟨t, u, ps⟩ := p
    obtain ⟨h1, h2⟩ := parseF_small hp
    exact ⟨by simp only; omega, fun p hp => by have := h2 p hp; omega⟩
  · split <;> simp
end Go.Proofs.YtemgbdncidgoiaaDoor
end
section
namespace Go.Proofs.YtemgbdncidgoiaaDoor
open Go.Ev Go
theorem kidsF_n {ent : Nat → Nat → Nat → Pt × Nat} (h : ∀ fr to n, n ≤ 1000 → (ent fr to n).2 ≤ 1000) (fin : Nat) : ∀ (cs : List (Nat × Nat)) (n : Nat), n ≤ 1000 → (kidsF ent fin cs n).2 ≤ 1000
  | [], n, hn => hn
  | c :: r, n, hn => by
    unfold kidsF
    exact kidsF_n h fin r _ (h _ _ _ hn)
theorem entF_n (b : Bs) : ∀ (d fr to : Nat) (dg : Bool) (n : Nat), n ≤ 1000 → (entF b d fr to dg n).2 ≤ 1000
  | 0, fr, to, dg, n, hn => by simpa [entF] using hn
  | d + 1, fr, to, dg, n, hn => by
    unfold entF
    simp only
    split
    · split
      · rename_i h
        exact kidsF_n (fun fr to n hn => entF_n b d fr to _ n hn) _ _ _ h.2
      · exact hn
    · split
      · rename_i h
        exact entF_n b d _ _ _ _ (by have := h.2.2.2; omega)
      · exact hn
def EntRet (b : Bs) (d : Nat) : Prop := ∀ (fr to n : Nat) (dg : Bool), n ≤ 1000 →
  Ret 31 [.ref 0 0, .agg [.int .i64 (fr : Nat), .int .i64 (to : Nat)], .int .i64 ((32 - d : Nat) : Int), .bool dg] (objB b (n : Nat)) (partV (entF b d fr to dg n).1, objB b ((entF b d fr to dg n).2 : Nat))
def objP (k h1 h2 b1 b2 : Int) (kids : List V) (cs : List (Nat × Nat)) (e1 e2 : Int) : Ob :=
  .cells [.int .i64 k, .int .i64 h1, .int .i64 h2, .int .i64 b1, .int .i64 b2, .lst 28 true kids, .lst 24 false (cs.map cutV), .int .i64 e1, .int .i64 e2]
theorem getD_cut {l : List (Nat × Nat)} {i : Nat} (h : i < l.length) : (l.map cutV).getD i .bot = cutV l[i] := by simp [List.getD, h]
theorem eta_part (p : Pt) : V.agg [V.int .i64 (V.getI (List.headD (V.cells (partV p)) V.bot)), V.int .i64 (V.getI (List.headD (List.tail (V.cells (partV p))) V.bot)), V.int .i64 (V.getI (List.headD (List.tail (List.tail (V.cells (partV p)))) V.bot)),
    V.int .i64 (V.getI (List.headD (List.tail (List.tail (List.tail (V.cells (partV p))))) V.bot)), V.int .i64 (V.getI (List.headD (List.tail (List.tail (List.tail (List.tail (V.cells (partV p)))))) V.bot)),
    V.lst 28 false (V.getL (List.headD (List.tail (List.tail (List.tail (List.tail (List.tail (V.cells (partV p))))))) V.bot)), V.lst 24 false (V.getL (List.headD (List.tail (List.tail (List.tail (List.tail (List.tail (List.tail (V.cells (partV p)))))))) V.bot)),
    V.int .i64 (V.getI (List.headD (List.tail (List.tail (List.tail (List.tail (List.tail (List.tail (List.tail (V.cells (partV p))))))))) V.bot)), V.int .i64 (V.getI (List.headD (List.tail (List.tail (List.tail (List.tail (List.tail (List.tail (List.tail (List.tail (V.cells (partV p)))))))))) V.bot))] = partV p := by
  cases p; rw [partV]; rfl
theorem max_int (x y : Nat) : (if ((y : Nat) : Int) > ((x : Nat) : Int) then ((y : Nat) : Int) else ((x : Nat) : Int)) = ((max x y : Nat) : Int) := by
  split <;> omega
theorem loop43 (b : Bs) (d : Nat) (he : EntRet b d) (dg : Bool) (cs : List (Nat × Nat)) (hcs : cs.length ≤ 1000) (h1 h2 b1 b2 : Int) (e1 e2 : Nat) : ∀ (m i : Nat) (kids : List Pt) (n : Nat), cs.length - i = m → i ≤ cs.length → kids.length = i → n ≤ 1000 →
    Evt (fun k j => L43 (callN cfg k) j ((32 - d : Nat) : Int) dg (cs.map cutV) (cs.length : Nat) (i : Nat) (ofBytes b) (n : Nat) 1 h1 h2 b1 b2 (kids.map partV) (cs.map cutV) (e1 : Nat) (e2 : Nat))
      (.tup [], [.cells [.lst 5 false (ofBytes b), .int .i64 ((kidsF (fun fr to n => entF b d fr to dg n) e1 (cs.drop i) n).2 : Nat)], objP 1 h1 h2 b1 b2 ((kids ++ (kidsF (fun fr to n => entF b d fr to dg n) e1 (cs.drop i) n).1).map partV) cs (e1 : Nat) (e2 : Nat)])
  | 0, i, kids, n, h, hi, hk, hn => by
    refine N43_0 ((32 - d : Nat) : Int) dg (cs.map cutV) (cs.length : Nat) (i : Nat) (ofBytes b) (n : Nat) 1 h1 h2 b1 b2 (kids.map partV) (cs.map cutV) (e1 : Nat) (e2 : Nat) ?_
    have g1 : ¬ ((i : Int) < (cs.length : Int)) := by omega
    rw [List.drop_eq_nil_of_le (by omega)]
    simp only [T43_0, g1, decide_false, Bool.false_eq_true, if_false, kidsF, List.append_nil, objP]
    exact evt_some _
  | m + 1, i, kids, n, h, hi, hk, hn => by
    have hlt : i < cs.length := by omega
    refine N43_0 ((32 - d : Nat) : Int) dg (cs.map cutV) (cs.length : Nat) (i : Nat) (ofBytes b) (n : Nat) 1 h1 h2 b1 b2 (kids.map partV) (cs.map cutV) (e1 : Nat) (e2 : Nat) ?_
    have g1 : ((i : Int) < (cs.length : Int)) := by omega
    have g2 : (0 : Int) ≤ (i : Int) := by omega
    have hw : IntKind.wrap .i64 ((i : Int) + 1) = ((i + 1 : Nat) : Int) := by rw [wrap64 (by omega) (by omega)]; omega
    have hd : cs.drop i = cs[i] :: cs.drop (i + 1) := List.drop_eq_getElem_cons hlt
    have hap : ∀ v : V, appOk (kids.map partV) [v] 105 = true := fun v => app_ok (by simp; omega)
    have hkl : ((((kids.map partV).length : Nat) : Int) == (((kids.map partV).length : Nat) : Int)) = true := by simp
    rw [hd]
    have fin : ∀ x : Nat, nextF e1 (cs.drop (i + 1)) = x →
        Evt (fun k j => Option.bind (callN cfg k 31 [.ref 0 0, .agg [.int .i64 (cs[i].2 : Nat), .int .i64 ((max x cs[i].2 : Nat) : Int)], .int .i64 ((32 - d : Nat) : Int), .bool dg] (objB b (n : Nat))) fun z0 =>
          L43 (callN cfg k) j ((32 - d : Nat) : Int) dg (cs.map cutV) (cs.length : Nat) ((i + 1 : Nat) : Int) ((V.getL (List.headD (Ob.getC (List.headD z0.2 Ob.dead)) V.bot))) ((V.getI (List.headD (List.tail (Ob.getC (List.headD z0.2 Ob.dead))) V.bot))) 1 h1 h2 b1 b2 (kids.map partV ++ [V.agg [V.int .i64 (V.getI (List.headD (V.cells z0.1) V.bot)), V.int .i64 (V.getI (List.headD (List.tail (V.cells z0.1)) V.bot)), V.int .i64 (V.getI (List.headD (List.tail (List.tail (V.cells z0.1))) V.bot)), V.int .i64 (V.getI (List.headD (List.tail (List.tail (List.tail (V.cells z0.1)))) V.bot)), V.int .i64 (V.getI (List.headD (List.tail (List.tail (List.tail (List.tail (V.cells z0.1))))) V.bot)), V.lst 28 false (V.getL (List.headD (List.tail (List.tail (List.tail (List.tail (List.tail (V.cells z0.1)))))) V.bot)), V.lst 24 false (V.getL (List.headD (List.tail (List.tail (List.tail (List.tail (List.tail (List.tail (V.cells z0.1))))))) V.bot)), V.int .i64 (V.getI (List.headD (List.tail (List.tail (List.tail (List.tail (List.tail (List.tail (List.tail (V.cells z0.1)))))))) V.bot)), V.int .i64 (V.getI (List.headD (List.tail (List.tail (List.tail (List.tail (List.tail (List.tail (List.tail (List.tail (V.cells z0.1))))))))) V.bot))]]) (cs.map cutV) (e1 : Nat) (e2 : Nat))
        (.tup [], [.cells [.lst 5 false (ofBytes b), .int .i64 ((kidsF (fun fr to n => entF b d fr to dg n) e1 (cs[i] :: cs.drop (i + 1)) n).2 : Nat)], objP 1 h1 h2 b1 b2 ((kids ++ (kidsF (fun fr to n => entF b d fr to dg n) e1 (cs[i] :: cs.drop (i + 1)) n).1).map partV) cs (e1 : Nat) (e2 : Nat)]) := by
      intro x hx
      refine evt_bind (he cs[i].2 (max x cs[i].2) n dg hn) ?_
      have := loop43 b d he dg cs hcs h1 h2 b1 b2 e1 e2 m (i + 1) (kids ++ [(entF b d cs[i].2 (max x cs[i].2) dg n).1]) (entF b d cs[i].2 (max x cs[i].2) dg n).2 (by omega) (by omega) (by simp [hk]) (entF_n b d _ _ _ _ hn)
      unfold kidsF
      rw [hx]
      simp only [eta_part]
      simp only [List.map_append, List.map_cons, List.map_nil, List.append_assoc, List.singleton_append] at this ⊢
      exact this
    by_cases hn1 : i + 1 < cs.length
    · have q1 : (((i + 1 : Nat) : Int) < (cs.length : Int)) := by omega
      have q2 : (0 : Int) ≤ ((i + 1 : Nat) : Int) := by omega
      simp only [T43_0, g1, decide_true, if_true, chk_p g2, List.length_map, chk_t, hw, q1, chk_p q2, Int.toNat_natCast, getD_cut hlt, getD_cut hn1, cutV, V.cells, List.headD_cons, List.tail_cons, V.getI, max_int, beq_self_eq_true, chk_b (hap _)]
      exact fin cs[i + 1].1 (by rw [List.drop_eq_getElem_cons hn1]; rfl)
    · have q1 : ¬ (((i + 1 : Nat) : Int) < (cs.length : Int)) := by omega
      simp only [T43_0, g1, decide_true, decide_false, Bool.false_eq_true, if_false, if_true, chk_p g2, List.length_map, chk_t, hw, q1, Int.toNat_natCast, getD_cut hlt, cutV, V.cells, List.headD_cons, List.tail_cons, V.getI, max_int, beq_self_eq_true, chk_b (hap _)]
      exact fin e1 (by rw [List.drop_eq_nil_of_le (by omega)]; rfl)
end Go.Proofs.YtemgbdncidgoiaaDoor
end
section
namespace Go.Proofs.YtemgbdncidgoiaaDoor
open Go.Ev Go
theorem ret43 (b : Bs) (d : Nat) (he : EntRet b d) (dg : Bool) (cs : List (Nat × Nat)) (hcs : cs.length ≤ 1000) (h1 h2 b1 b2 : Int) (e1 e2 : Nat) (n : Nat) (hn : n ≤ 1000) :
    Ret 43 [.ref 0 0, .ref 1 0, .int .i64 ((32 - d : Nat) : Int), .bool dg] [.cells [.lst 5 false (ofBytes b), .int .i64 (n : Nat)], objP 1 h1 h2 b1 b2 [] cs (e1 : Nat) (e2 : Nat)]
      (.tup [], [.cells [.lst 5 false (ofBytes b), .int .i64 ((kidsF (fun fr to n => entF b d fr to dg n) e1 cs n).2 : Nat)], objP 1 h1 h2 b1 b2 ((kidsF (fun fr to n => entF b d fr to dg n) e1 cs n).1.map partV) cs (e1 : Nat) (e2 : Nat)]) := by
  refine M43 (ofBytes b) (n : Nat) 1 h1 h2 b1 b2 [] (cs.map cutV) (e1 : Nat) (e2 : Nat) ((32 - d : Nat) : Int) dg ?_
  simp only [T43, List.length_map]
  have := loop43 b d he dg cs hcs h1 h2 b1 b2 e1 e2 cs.length 0 [] n (by omega) (by omega) rfl hn
  simpa using this
theorem ent_0 (b : Bs) (hb : b.length ≤ 100000) : EntRet b 0 := by
  intro fr to n dg hn
  refine M31 (ofBytes b) (n : Nat) (fr : Nat) (to : Nat) ((32 - 0 : Nat) : Int) dg ?_
  simp only [T31]
  refine evt_bind (ret39 b (by omega) (fr : Nat) (to : Nat)) ?_
  have h1 : ((((32 - 0 : Nat) : Int)) == (32 : Int)) = true := rfl
  simp only [h1, if_true, V.getT, List.headD_cons, List.tail_cons, V.getI]
  rw [← headF_at]
  exact evt_some _
theorem cutsG_length (b bd : Bs) : ∀ (l : List Ln) (out : List (Nat × Nat)) (fr : Nat), (cutsG b bd l out fr).1.length ≤ out.length + l.length
  | [], out, fr => by simp [cutsG]
  | x :: r, out, fr => by
    unfold cutsG
    split
    · have := cutsG_length b bd r out x.2.1; simp only [List.length_cons]; omega
    · split
      · simp
      · have := cutsG_length b bd r (out ++ [(fr, x.2.2)]) x.2.2; simp only [List.length_append, List.length_cons, List.length_nil] at this ⊢; omega
theorem cutsF_length (b : Bs) (fr to : Nat) (bd : Bs) : (cutsF b fr to bd).1.length ≤ b.length := by
  have h1 := linesOf_length fr to b
  have h2 := cutsG_length b bd (linesOf fr to b) [] fr
  unfold cutsF; simp at h2; simp only; omega
theorem getI_int (k : IntKind) (z : Int) : (V.int k z).getI = z := rfl
theorem getL_lst (t : TypeId) (o : Bool) (l : List V) : (V.lst t o l).getL = l := rfl
theorem getB_bool (x : Bool) : (V.bool x).getB = x := rfl
theorem getS_str (x : Bs) : (V.str x).getS = x := rfl
theorem getT_tup (l : List V) : (V.tup l).getT = l := rfl
theorem cells_agg (l : List V) : (V.agg l).cells = l := rfl
theorem leaf_V (fr at_ to : Nat) : partV (leafP fr at_ to) = .agg [.int .i64 0, .int .i64 (fr : Nat), .int .i64 (at_ : Nat), .int .i64 (at_ : Nat), .int .i64 (to : Nat), .lst 28 false [], .lst 24 false [], .int .i64 0, .int .i64 0] := by
  unfold leafP; rw [partV]; rfl
theorem evt_opt {α β : Type} {o : Option β} {v : β} {F : Nat → Nat → β → Option α} {r : α} (h : o = some v) (h2 : Evt (fun k n => F k n v) r) : Evt (fun k n => Option.bind o (F k n)) r := by subst h; exact h2
theorem ent_s (b : Bs) (hb : b.length ≤ 100000) (d : Nat) (hd : d + 1 ≤ 32) (he : EntRet b d) : EntRet b (d + 1) := by
  intro fr to n dg hn
  refine M31 (ofBytes b) (n : Nat) (fr : Nat) (to : Nat) ((32 - (d + 1) : Nat) : Int) dg ?_
  simp only [T31]
  refine evt_bind (ret39 b (by omega) (fr : Nat) (to : Nat)) ?_
  obtain ⟨k1, k2⟩ := headF_ok b (fr : Nat) (to : Nat)
  have h1 : ((((32 - (d + 1) : Nat) : Int)) == (32 : Int)) = false := beq_eq_false_iff_ne.2 (by omega)
  have hw : IntKind.wrap .i64 (((32 - (d + 1) : Nat) : Int) + 1) = ((32 - d : Nat) : Int) := by rw [wrap64 (by omega) (by omega)]; omega
  simp only [h1, Bool.false_eq_true, if_false, getT_tup, List.headD_cons, List.tail_cons, getI_int, getL_lst, hw]
  rw [← headF_at]
  generalize hat : (headF b (fr : Nat) (to : Nat)).2.toNat = at_
  generalize hfl : (headF b (fr : Nat) (to : Nat)).1 = l at k1 k2
  refine evt_bind (ret40 b (by omega) l (by omega) (fun f hf => by have := k1 f hf; omega) dg (n : Nat)) ?_
  obtain ⟨m1, m2⟩ := kindF_small b l dg
  generalize hv : kindF b l dg = v at m1 m2
  obtain ⟨t, u, ps⟩ := v
  simp only at m1 m2
  simp only [cells_agg, getS_str, getL_lst, List.headD_cons, List.tail_cons]
  refine evt_bind (ret41 t u ps (by omega) (fun p hp => by have := m2 p hp; omega) bdB (by simp [bdB])) ?_
  simp only [getT_tup, getS_str, List.headD_cons]
  have hent : entF b (d + 1) fr to dg n = (if t = mpB ∧ (getF ps bdB).getD [] ≠ [] ∧ ((getF ps bdB).getD []).length ≤ 70 then
      if 0 < (cutsF b at_ to ((getF ps bdB).getD [])).1.length ∧ n + (cutsF b at_ to ((getF ps bdB).getD [])).1.length ≤ 1000 then
        (Pt.mk 1 (fr, at_) (at_, to) (kidsF (fun fr to n => entF b d fr to (u == dgB) n) (cutsF b at_ to ((getF ps bdB).getD [])).2.1 (cutsF b at_ to ((getF ps bdB).getD [])).1 (n + (cutsF b at_ to ((getF ps bdB).getD [])).1.length)).1 (cutsF b at_ to ((getF ps bdB).getD [])).1 (cutsF b at_ to ((getF ps bdB).getD [])).2,
          (kidsF (fun fr to n => entF b d fr to (u == dgB) n) (cutsF b at_ to ((getF ps bdB).getD [])).2.1 (cutsF b at_ to ((getF ps bdB).getD [])).1 (n + (cutsF b at_ to ((getF ps bdB).getD [])).1.length)).2)
      else (leafP fr at_ to, n)
    else if t = msgB ∧ u = rfcB ∧ noneF b l = true ∧ n < 1000 then (Pt.mk 2 (fr, at_) (at_, to) [(entF b d at_ to false (n + 1)).1] [] (0, 0), (entF b d at_ to false (n + 1)).2)
    else (leafP fr at_ to, n)) := by
    rw [entF]
    simp only [hat, hfl, hv]
  rw [hent]
  generalize hbd : (getF ps bdB).getD [] = bd
  have hsq : ∀ x y : Bs, sEq x y = decide (x = y) := fun x y => by
    by_cases h : x = y
    · subst h; simp [sEq]
    · simp [sEq, h]
  have leaf : ∀ x : Int, x = (n : Int) → Evt (fun _ _ => some (V.agg [.int .i64 0, .int .i64 (fr : Nat), .int .i64 (at_ : Nat), .int .i64 (at_ : Nat), .int .i64 (to : Nat), .lst 28 false [], .lst 24 false [], .int .i64 0, .int .i64 0],
      [Ob.cells [.lst 5 false (ofBytes b), .int .i64 x]])) (partV (leafP fr at_ to), objB b (n : Nat)) := by
    intro x hx
    subst hx
    rw [leaf_V]
    exact evt_some _
  have hy3 : (if sEq t [109, 117, 108, 116, 105, 112, 97, 114, 116] = true then (if (!(sEq bd [])) = true then some (decide (((bd.length : Nat) : Int) ≤ (70 : Int))) else some false) else some false) = some (decide (t = mpB ∧ bd ≠ [] ∧ bd.length ≤ 70)) := by
    have e1 : sEq t [109, 117, 108, 116, 105, 112, 97, 114, 116] = decide (t = mpB) := hsq t mpB
    rw [e1, hsq bd []]
    by_cases c1 : t = mpB
    · by_cases c2 : bd = []
      · simp [c1, c2]
      · by_cases c3 : bd.length ≤ 70
        · have : ((bd.length : Nat) : Int) ≤ 70 := by omega
          simp [c1, c2, c3, this]
        · have : ¬ (((bd.length : Nat) : Int) ≤ 70) := by omega
          simp [c1, c2, c3, this]
    · simp [c1]
  refine evt_opt hy3 ?_
  by_cases hc : t = mpB ∧ bd ≠ [] ∧ bd.length ≤ 70
  · rw [if_pos hc]
    simp only [decide_eq_true hc, if_true]
    refine evt_bind (ret42 b bd (by omega) (by have := hc.2.2; omega) (n : Nat) at_ to) ?_
    have hcl := cutsF_length b at_ to bd
    generalize hcu : cutsF b at_ to bd = cu at hcl
    obtain ⟨cs, e1, e2⟩ := cu
    simp only at hcl
    have hwn : IntKind.wrap .i64 ((n : Int) + ((cs.length : Nat) : Int)) = ((n + cs.length : Nat) : Int) := by rw [wrap64 (by omega) (by omega)]; omega
    simp only [V.getT, List.headD_cons, List.tail_cons, V.getB, V.getL, objB, Ob.getC, V.getI, cutV, V.cells, List.length_map, hwn]
    have hy5 : (if decide (0 < cs.length) = true then some (decide (((n + cs.length : Nat) : Int) ≤ (1000 : Int))) else some false) = some (decide (0 < cs.length ∧ n + cs.length ≤ 1000)) := by
      by_cases c1 : 0 < cs.length
      · by_cases c2 : n + cs.length ≤ 1000
        · have : ((n + cs.length : Nat) : Int) ≤ 1000 := by omega
          simp only [c1, c2, this, decide_true, if_true, and_self]
        · have : ¬ (((n + cs.length : Nat) : Int) ≤ 1000) := by omega
          simp only [c1, c2, this, decide_true, decide_false, if_true, and_false]
      · simp only [c1, decide_false, Bool.false_eq_true, if_false, false_and]
    refine evt_opt hy5 ?_
    by_cases hc2 : 0 < cs.length ∧ n + cs.length ≤ 1000
    · rw [if_pos hc2]
      simp only [decide_eq_true hc2, if_true]
      refine evt_bind (ret43 b d he (u == dgB) cs (by omega) (fr : Nat) (at_ : Nat) (at_ : Nat) (to : Nat) e1 e2 (n + cs.length) hc2.2) ?_
      rw [partV, partVL_eq]
      exact evt_some _
    · rw [if_neg hc2]
      simp only [decide_eq_false hc2, Bool.false_eq_true, if_false]
      exact leaf _ rfl
  · rw [if_neg hc]
    simp only [decide_eq_false hc, Bool.false_eq_true, if_false]
    by_cases t1 : t = msgB
    · by_cases t2 : u = rfcB
      · have s1 : sEq t [109, 101, 115, 115, 97, 103, 101] = true := by rw [hsq]; exact decide_eq_true t1
        have s2 : sEq u [114, 102, 99, 56, 50, 50] = true := by rw [hsq]; exact decide_eq_true t2
        simp only [s1, s2, if_true]
        refine evt_bind (ret44 b (by omega) l (by omega) (fun f hf => by have := k1 f hf; omega) (n : Nat)) ?_
        simp only [getB_bool, objB, Ob.getC, List.headD_cons, List.tail_cons, getI_int, getL_lst]
        by_cases t3 : noneF b l = true
        · by_cases t4 : n < 1000
          · have t4' : ((n : Nat) : Int) < 1000 := by omega
            have hwn : IntKind.wrap .i64 ((n : Int) + 1) = ((n + 1 : Nat) : Int) := by rw [wrap64 (by omega) (by omega)]; omega
            rw [if_pos ⟨t1, t2, t3, t4⟩]
            simp only [t3, if_true, t4', decide_true, hwn]
            refine evt_bind (he at_ to (n + 1) false (by omega)) ?_
            simp only [eta_part]
            rw [partV, partVL, partVL]
            exact evt_some _
          · have t4' : ¬ (((n : Nat) : Int) < 1000) := by omega
            rw [if_neg (fun h => t4 h.2.2.2)]
            simp only [t3, if_true, t4', decide_false, Bool.false_eq_true, if_false]
            exact leaf _ rfl
        · rw [if_neg (fun h => t3 h.2.2.1)]
          simp only [t3, Bool.false_eq_true, if_false]
          exact leaf _ rfl
      · rw [if_neg (fun h => t2 h.2.1)]
        have s1 : sEq t [109, 101, 115, 115, 97, 103, 101] = true := by rw [hsq]; exact decide_eq_true t1
        have s2 : sEq u [114, 102, 99, 56, 50, 50] = false := by rw [hsq]; exact decide_eq_false t2
        simp only [s1, s2, if_true, Bool.false_eq_true, if_false]
        exact leaf _ rfl
    · rw [if_neg (fun h => t1 h.1)]
      have s1 : sEq t [109, 101, 115, 115, 97, 103, 101] = false := by rw [hsq]; exact decide_eq_false t1
      simp only [s1, Bool.false_eq_true, if_false]
      exact leaf _ rfl
theorem ent_ret (b : Bs) (hb : b.length ≤ 100000) : ∀ d, d ≤ 32 → EntRet b d
  | 0, _ => ent_0 b hb
  | d + 1, h => ent_s b hb d h (ent_ret b hb d (by omega))
end Go.Proofs.YtemgbdncidgoiaaDoor
end
section
namespace Go.Proofs.YtemgbdncidgoiaaDoor
open Go.Ev Go
theorem ret15 (b : Bs) (hb : b.length ≤ 100000) :
    Ret 15 [.lst 5 false (ofBytes b)] [] (.tup [partV (entF b 32 0 b.length false 1).1, .int .i64 0], []) := by
  refine M15 (ofBytes b) ?_
  have h1 : ¬ (((b.length : Nat) : Int) > 67108864) := by omega
  simp only [T15, ofBytes_length, h1, decide_false, Bool.false_eq_true, if_false]
  have he : Ret 31 [.ref 0 0, .agg [.int .i64 (0 : Int), .int .i64 (b.length : Nat)], .int .i64 (0 : Int), .bool false] [.cells [.lst 5 false (ofBytes b), .int .i64 (1 : Int)]] (partV (entF b 32 0 b.length false 1).1, objB b ((entF b 32 0 b.length false 1).2 : Nat)) :=
    ent_ret b hb 32 (by omega) 0 b.length 1 false (by omega)
  refine evt_bind he ?_
  simp only [eta_part]
  exact evt_some _
mutual
def cntF : Pt → Nat
  | .mk _ _ _ kids _ _ => 1 + cntL kids
def cntL : List Pt → Nat
  | [] => 0
  | p :: r => cntF p + cntL r
end
mutual
def dpF : Pt → Nat
  | .mk _ _ _ kids _ _ => dpL kids
def dpL : List Pt → Nat
  | [] => 0
  | p :: r => max (dpF p + 1) (dpL r)
end
theorem cntF_pos (p : Pt) : 1 ≤ cntF p := by cases p; rw [cntF]; omega
theorem getD_mid (f : Pt → V) (pre : List Pt) (p : Pt) (r : List Pt) : ((pre ++ p :: r).map f).getD pre.length .bot = f p := by
  simp [List.getD]
mutual
theorem ret17 : ∀ p : Pt, cntF p ≤ 1000000 → Ret 17 [partV p] [] (.int .i64 (cntF p : Nat), [])
  | .mk k h b kids cuts e, hc => by
    rw [partV]
    refine M17 (k : Nat) (h.1 : Nat) (h.2 : Nat) (b.1 : Nat) (b.2 : Nat) (partVL kids) (cuts.map cutV) (e.1 : Nat) (e.2 : Nat) ?_
    rw [cntF] at hc ⊢
    have := loop17 kids [] 1 hc (by simp)
    simp only [T17, partVL_eq, List.length_map]
    simpa using this
theorem loop17 : ∀ (r pre : List Pt) (acc : Nat), acc + cntL r ≤ 1000000 → pre.length ≤ acc →
    Evt (fun k j => L17 (callN cfg k) j (acc : Nat) ((pre ++ r).map partV) ((pre ++ r).length : Nat) (pre.length : Nat)) (.int .i64 ((acc + cntL r : Nat) : Int), [])
  | [], pre, acc, h, hp => by
    refine N17_0 (acc : Nat) ((pre ++ []).map partV) ((pre ++ []).length : Nat) (pre.length : Nat) ?_
    have h1 : ¬ ((pre.length : Int) < ((pre ++ []).length : Nat)) := by simp
    simp only [T17_0, h1, decide_false, Bool.false_eq_true, if_false, cntL]
    exact evt_some _
  | p :: r, pre, acc, h, hp => by
    rw [cntL] at h
    refine N17_0 (acc : Nat) ((pre ++ p :: r).map partV) ((pre ++ p :: r).length : Nat) (pre.length : Nat) ?_
    have h1 : ((pre.length : Int) < ((pre ++ p :: r).length : Nat)) := by simp; omega
    have h2 : (0 : Int) ≤ (pre.length : Nat) := by omega
    have hpos := cntF_pos p
    have hw : IntKind.wrap .i64 (((pre.length : Nat) : Int) + 1) = ((pre.length + 1 : Nat) : Int) := by rw [wrap64 (by omega) (by omega)]; omega
    have hw2 : IntKind.wrap .i64 (((acc : Nat) : Int) + ((cntF p : Nat) : Int)) = ((acc + cntF p : Nat) : Int) := by rw [wrap64 (by omega) (by omega)]; omega
    simp only [T17_0, h1, decide_true, if_true, chk_p h2, List.length_map, chk_t, Int.toNat_natCast, getD_mid, eta_part, hw]
    refine evt_bind (ret17 p (by omega)) ?_
    have := loop17 r (pre ++ [p]) (acc + cntF p) (by omega) (by simp; omega)
    simp only [List.append_assoc, List.singleton_append, List.length_append, List.length_cons, List.length_nil, Nat.zero_add] at this
    simp only [V.getI, hw2, cntL, List.length_append, List.length_cons, ← Nat.add_assoc] at this ⊢
    exact this
end
mutual
theorem dpF_cnt : ∀ p : Pt, dpF p + 1 ≤ cntF p
  | .mk k h b kids cuts e => by
    have := dpL_cnt kids
    rw [dpF, cntF]; omega
theorem dpL_cnt : ∀ l : List Pt, dpL l ≤ cntL l
  | [] => by simp [dpL]
  | p :: r => by
    have := dpF_cnt p
    have := dpL_cnt r
    rw [dpL, cntL]; omega
end
mutual
theorem ret18 : ∀ p : Pt, cntF p ≤ 1000000 → Ret 18 [partV p] [] (.int .i64 (dpF p : Nat), [])
  | .mk k h b kids cuts e, hc => by
    rw [partV]
    refine M18 (k : Nat) (h.1 : Nat) (h.2 : Nat) (b.1 : Nat) (b.2 : Nat) (partVL kids) (cuts.map cutV) (e.1 : Nat) (e.2 : Nat) ?_
    rw [cntF] at hc
    rw [dpF]
    have := loop18 kids [] 0 (by simp; omega)
    simp only [T18, partVL_eq, List.length_map]
    simpa using this
theorem loop18 : ∀ (r pre : List Pt) (acc : Nat), pre.length + cntL r ≤ 1000000 →
    Evt (fun k j => L18 (callN cfg k) j (acc : Nat) ((pre ++ r).map partV) ((pre ++ r).length : Nat) (pre.length : Nat)) (.int .i64 ((max acc (dpL r) : Nat) : Int), [])
  | [], pre, acc, h => by
    refine N18_0 (acc : Nat) ((pre ++ []).map partV) ((pre ++ []).length : Nat) (pre.length : Nat) ?_
    have h1 : ¬ ((pre.length : Int) < ((pre ++ []).length : Nat)) := by simp
    simp only [T18_0, h1, decide_false, Bool.false_eq_true, if_false, dpL, Nat.max_zero]
    exact evt_some _
  | p :: r, pre, acc, h => by
    rw [cntL] at h
    refine N18_0 (acc : Nat) ((pre ++ p :: r).map partV) ((pre ++ p :: r).length : Nat) (pre.length : Nat) ?_
    have h1 : ((pre.length : Int) < ((pre ++ p :: r).length : Nat)) := by simp; omega
    have h2 : (0 : Int) ≤ (pre.length : Nat) := by omega
    have hpos := cntF_pos p
    have hdc := dpF_cnt p
    have hw : IntKind.wrap .i64 (((pre.length : Nat) : Int) + 1) = ((pre.length + 1 : Nat) : Int) := by rw [wrap64 (by omega) (by omega)]; omega
    have hw2 : IntKind.wrap .i64 (((dpF p : Nat) : Int) + 1) = ((dpF p + 1 : Nat) : Int) := by rw [wrap64 (by omega) (by omega)]; omega
    simp only [T18_0, h1, decide_true, if_true, chk_p h2, List.length_map, chk_t, Int.toNat_natCast, getD_mid, eta_part, hw]
    refine evt_bind (ret18 p (by omega)) ?_
    have := loop18 r (pre ++ [p]) (max acc (dpF p + 1)) (by simp; omega)
    simp only [List.append_assoc, List.singleton_append, List.length_append, List.length_cons, List.length_nil, Nat.zero_add] at this
    simp only [V.getI, hw2, max_int, dpL, List.length_append, List.length_cons, Nat.max_assoc] at this ⊢
    exact this
end
end Go.Proofs.YtemgbdncidgoiaaDoor
end
section
namespace Go.Proofs.YtemgbdncidgoiaaDoor
open Go.Ev Go
open List (headD tail getD length drop take)
open V (getI getL getT getS getB)
set_option maxRecDepth 100000
variable (call : FuncId → Fun) (icall : ICall (V × List Ob)) (again : List It → St → Option (V × List Ob))
end Go.Proofs.YtemgbdncidgoiaaDoor
end
section
namespace Go.Proofs.YtemgbdncidgoiaaDoor
open Go.Ev Go
end Go.Proofs.YtemgbdncidgoiaaDoor
end
section
namespace Go.Proofs.YtemgbdncidgoiaaDoor
open Go.Ev Go
end Go.Proofs.YtemgbdncidgoiaaDoor
end
section
namespace Go.Proofs.YtemgbdncidgoiaaDoor
open Go.Ev Go
theorem entF_s (b : Bs) (d fr to : Nat) (dg : Bool) (n : Nat) {at_ : Nat} {l : List Fd} {t u : Bs} {ps : Ps} {bd : Bs} {cs : List (Nat × Nat)} {e : Nat × Nat}
    (h1 : (headF b (fr : Nat) (to : Nat)).1 = l) (h2 : (headF b (fr : Nat) (to : Nat)).2.toNat = at_) (h3 : kindF b l dg = (t, u, ps)) (h4 : (getF ps bdB).getD [] = bd) (h5 : cutsF b at_ to bd = (cs, e)) :
    entF b (d + 1) fr to dg n = if t = mpB ∧ bd ≠ [] ∧ bd.length ≤ 70 then
      if 0 < cs.length ∧ n + cs.length ≤ 1000 then
        (Pt.mk 1 (fr, at_) (at_, to) (kidsF (fun fr to n => entF b d fr to (u == dgB) n) e.1 cs (n + cs.length)).1 cs e, (kidsF (fun fr to n => entF b d fr to (u == dgB) n) e.1 cs (n + cs.length)).2)
      else (leafP fr at_ to, n)
    else if t = msgB ∧ u = rfcB ∧ noneF b l = true ∧ n < 1000 then (Pt.mk 2 (fr, at_) (at_, to) [(entF b d at_ to false (n + 1)).1] [] (0, 0), (entF b d at_ to false (n + 1)).2)
    else (leafP fr at_ to, n) := by
  rw [entF]
  simp only [h1, h2, h3, h4, h5]
theorem kidsF_cnt (ent : Nat → Nat → Nat → Pt × Nat) (h : ∀ fr to n, (ent fr to n).2 + 1 = n + cntF (ent fr to n).1) (fin : Nat) : ∀ (cs : List (Nat × Nat)) (n : Nat), (kidsF ent fin cs n).2 + cs.length = n + cntL (kidsF ent fin cs n).1
  | [], n => by simp [kidsF, cntL]
  | c :: r, n => by
    have h1 := h c.2 (max (nextF fin r) c.2) n
    have h2 := kidsF_cnt ent h fin r (ent c.2 (max (nextF fin r) c.2) n).2
    rw [kidsF, cntL, List.length_cons]
    simp only
    omega
theorem entF_cnt (b : Bs) : ∀ (d fr to : Nat) (dg : Bool) (n : Nat), (entF b d fr to dg n).2 + 1 = n + cntF (entF b d fr to dg n).1
  | 0, fr, to, dg, n => by rw [entF]; simp only [leafP, cntF, cntL]
  | d + 1, fr, to, dg, n => by
    generalize h1 : (headF b (fr : Nat) (to : Nat)).1 = l
    generalize h2 : (headF b (fr : Nat) (to : Nat)).2.toNat = at_
    obtain ⟨t, u, ps, h3⟩ : ∃ t u ps, kindF b l dg = (t, u, ps) := ⟨_, _, _, rfl⟩
    generalize h4 : (getF ps bdB).getD [] = bd
    obtain ⟨cs, e, h5⟩ : ∃ cs e, cutsF b at_ to bd = (cs, e) := ⟨_, _, rfl⟩
    rw [entF_s b d fr to dg n h1 h2 h3 h4 h5]
    split
    · split
      · have := kidsF_cnt (fun fr to n => entF b d fr to (u == dgB) n) (fun fr to n => entF_cnt b d fr to _ n) e.1 cs (n + cs.length)
        rw [cntF]
        simp only
        omega
      · simp only [leafP, cntF, cntL]
    · split
      · have := entF_cnt b d at_ to false (n + 1)
        simp only [cntF, cntL]
        omega
      · simp only [leafP, cntF, cntL]
end Go.Proofs.YtemgbdncidgoiaaDoor
end
section
namespace Go.Proofs.YtemgbdncidgoiaaDoor
open Go.Ev Go
theorem evt_eq {α : Type} {g g' : Nat → Nat → Option α} {r : α} (hg : ∀ k n, g k n = g' k n) (h : Evt g' r) : Evt g r := by
  obtain ⟨K, h⟩ := h
  exact ⟨K, fun k n hk hn => (hg k n).trans (h k n hk hn)⟩
end Go.Proofs.YtemgbdncidgoiaaDoor
end
section
namespace Go.Proofs.YtemgbdncidgoiaaDoor
open Go.Ev Go
end Go.Proofs.YtemgbdncidgoiaaDoor
end
section
namespace Go.Proofs.YtemgbdncidgoiaaDoor
open Go.Ev Go
open List (headD tail getD length drop take)
open V (getI getL getT getS getB)
set_option maxRecDepth 100000
variable (call : FuncId → Fun) (icall : ICall (V × List Ob)) (again : List It → St → Option (V × List Ob))
end Go.Proofs.YtemgbdncidgoiaaDoor
end
section
namespace Go.Proofs.YtemgbdncidgoiaaDoor
open Go.Ev Go
end Go.Proofs.YtemgbdncidgoiaaDoor
end
section
namespace Go.Proofs.YtemgbdncidgoiaaDoor
open Go.Ev Go
open List (headD tail getD length drop take)
open V (getI getL getT getS getB)
set_option maxRecDepth 100000
variable (call : FuncId → Fun) (icall : ICall (V × List Ob)) (again : List It → St → Option (V × List Ob))
end Go.Proofs.YtemgbdncidgoiaaDoor
end
section
namespace Go.Proofs.YtemgbdncidgoiaaDoor
open Go.Ev Go
end Go.Proofs.YtemgbdncidgoiaaDoor
end
section
namespace Go.Proofs.YtemgbdncidgoiaaDoor
open Go.Ev Go
open List (headD tail getD length drop take)
open V (getI getL getT getS getB)
set_option maxRecDepth 100000
variable (call : FuncId → Fun) (icall : ICall (V × List Ob)) (again : List It → St → Option (V × List Ob))
end Go.Proofs.YtemgbdncidgoiaaDoor
end
section
namespace Go.Proofs.YtemgbdncidgoiaaDoor
open Go.Ev Go
def prB (c : UInt8) : Bool := decide (32 ≤ c.toNat ∧ c.toNat < 127)
structure Sp where
  path : List Int
  what : Int
  names : List Bs
  cut : Bool
  fr : Int
  many : Int
def inB (l n : Int) : Bool := decide (l ≤ n ∧ n ≤ 4294967295)
def checkF (s : Sp) : Bool :=
  decide (s.path.length ≤ 64 ∧ 0 ≤ s.what ∧ s.what ≤ 5 ∧ (s.what = 5 → 0 < s.path.length)) && s.path.all (inB 1) && s.names.all (fun n => n.all prB) &&
  (if s.what = 2 ∨ s.what = 3 then decide (1 ≤ s.names.length ∧ s.names.length ≤ 100) else decide (s.names.length = 0)) &&
  (if s.cut then inB 0 s.fr && inB 1 s.many else decide (s.fr = 0 ∧ s.many = 0))
end Go.Proofs.YtemgbdncidgoiaaDoor
end
section
namespace Go.Proofs.YtemgbdncidgoiaaDoor
open Go.Ev Go
end Go.Proofs.YtemgbdncidgoiaaDoor
end
section
namespace Go.Proofs.YtemgbdncidgoiaaDoor
open Go.Ev Go
def Pt.kd : Pt → Nat | .mk k _ _ _ _ _ => k
def Pt.hd : Pt → Nat × Nat | .mk _ h _ _ _ _ => h
def Pt.bd : Pt → Nat × Nat | .mk _ _ b _ _ _ => b
def Pt.ks : Pt → List Pt | .mk _ _ _ l _ _ => l
def Pt.cs : Pt → List (Nat × Nat) | .mk _ _ _ _ c _ => c
def Pt.en : Pt → Nat × Nat | .mk _ _ _ _ _ e => e
theorem part_agg (p : Pt) : V.agg [.int .i64 (p.kd : Nat), .int .i64 (p.hd.1 : Nat), .int .i64 (p.hd.2 : Nat), .int .i64 (p.bd.1 : Nat), .int .i64 (p.bd.2 : Nat), .lst 28 false (p.ks.map partV), .lst 24 false (p.cs.map cutV), .int .i64 (p.en.1 : Nat), .int .i64 (p.en.2 : Nat)] = partV p := by
  cases p; rw [partV, partVL_eq]; rfl
theorem cells_part (p : Pt) : V.cells (partV p) = [.int .i64 (p.kd : Nat), .int .i64 (p.hd.1 : Nat), .int .i64 (p.hd.2 : Nat), .int .i64 (p.bd.1 : Nat), .int .i64 (p.bd.2 : Nat), .lst 28 false (p.ks.map partV), .lst 24 false (p.cs.map cutV), .int .i64 (p.en.1 : Nat), .int .i64 (p.en.2 : Nat)] := by
  rw [← part_agg]; rfl
end Go.Proofs.YtemgbdncidgoiaaDoor
end
section
namespace Go.Proofs.YtemgbdncidgoiaaDoor
open Go.Ev Go
open List (headD tail getD length drop take)
open V (getI getL getT getS getB)
set_option maxRecDepth 100000
variable (call : FuncId → Fun) (icall : ICall (V × List Ob)) (again : List It → St → Option (V × List Ob))
end Go.Proofs.YtemgbdncidgoiaaDoor
end
section
namespace Go.Proofs.YtemgbdncidgoiaaDoor
open Go.Ev Go
theorem linesOf_to {fr to : Nat} {b : Bs} : ∀ x ∈ linesOf (fr : Nat) (to : Nat) b, fr ≤ x.2.2 ∧ x.2.2 ≤ to := by
  intro x hx
  unfold linesOf at hx
  split at hx
  · rename_i h
    have := linesG_bounds _ _ _ x hx
    simp at this
    omega
  · cases hx
theorem headF_span {fr to : Nat} (b : Bs) (h : fr ≤ to) : fr ≤ (headF b (fr : Nat) (to : Nat)).2.toNat ∧ (headF b (fr : Nat) (to : Nat)).2.toNat ≤ to := by
  have hb : ∀ x ∈ linesOf (fr : Nat) (to : Nat) b, fr ≤ x.2.2 ∧ x.2.2 ≤ to := linesOf_to
  generalize hl : linesOf (fr : Nat) (to : Nat) b = l at hb
  have hd : ∀ k, k < l.length → fr ≤ (l.getD k (0, 0, 0)).2.2 ∧ (l.getD k (0, 0, 0)).2.2 ≤ to := fun k hk => by
    have : l.getD k (0, 0, 0) = l[k] := by simp [List.getD, hk]
    rw [this]; exact hb _ (List.getElem_mem hk)
  unfold headF
  rw [hl]
  by_cases h0 : l = []
  · rw [if_pos h0]; simp; omega
  · have hpos : 0 < l.length := List.length_pos_iff.2 h0
    rw [if_neg h0]
    cases he : emptyF l with
    | some k =>
      have := hd k (emptyF_lt he)
      simp only [Int.toNat_natCast]; exact this
    | none =>
      have := hd (l.length - 1) (by omega)
      simp only [Int.toNat_natCast]; exact this
theorem entF_hb (b : Bs) (d fr to : Nat) (dg : Bool) (n : Nat) : (entF b d fr to dg n).1.hd = (fr, (headF b (fr : Nat) (to : Nat)).2.toNat) ∧ (entF b d fr to dg n).1.bd = ((headF b (fr : Nat) (to : Nat)).2.toNat, to) := by
  cases d with
  | zero => rw [entF]; exact ⟨rfl, rfl⟩
  | succ d =>
    obtain ⟨t, u, ps, h3⟩ : ∃ t u ps, kindF b (headF b (fr : Nat) (to : Nat)).1 dg = (t, u, ps) := ⟨_, _, _, rfl⟩
    obtain ⟨cs, e, h5⟩ : ∃ cs e, cutsF b (headF b (fr : Nat) (to : Nat)).2.toNat to ((getF ps bdB).getD []) = (cs, e) := ⟨_, _, rfl⟩
    rw [entF_s b d fr to dg n rfl rfl h3 rfl h5]
    split
    · split <;> exact ⟨rfl, rfl⟩
    · split <;> exact ⟨rfl, rfl⟩
end Go.Proofs.YtemgbdncidgoiaaDoor
end
