/- What the document's functions give: bytes, skipping, tokens, quoted texts. -/
import Derived.Test.YtmhhcoccfojiiaaDoorSayH
import Derived.Test.YtmhhcoccfojiiaaDoorFnsB
namespace Go.Proofs.YtmhhcoccfojiiaaDoor
open Go.Ev Go

def upA : Bs := [65, 66, 67, 68, 69, 70, 71, 72, 73, 74, 75, 76, 77, 78, 79, 80, 81, 82, 83, 84, 85, 86, 87, 88, 89, 90]
def loA : Bs := [97, 98, 99, 100, 101, 102, 103, 104, 105, 106, 107, 108, 109, 110, 111, 112, 113, 114, 115, 116, 117, 118, 119, 120, 121, 122]
theorem up_low : ∀ i : Fin 26, low8 (upA.getD i.val 0) = loA.getD i.val 0 := by decide +kernel
theorem not_up : ∀ n : Fin 256, (∀ i : Fin 26, upA.getD i.val 0 ≠ UInt8.ofNat n.val) → low8 (UInt8.ofNat n.val) = UInt8.ofNat n.val := by decide +kernel
theorem u8_of (c : UInt8) : UInt8.ofNat (⟨c.toNat, c.toNat_lt⟩ : Fin 256).val = c := by simp

theorem loop43 (c : UInt8) : ∀ (n i : Nat), 26 - i = n → i ≤ 26 → (∀ j, j < i → upA.getD j 0 ≠ c) → Evt (fun k m => L43 (callN cfg k) m (c.toNat : Nat) upA loA (i : Nat)) (.int .u8 ((low8 c).toNat : Nat), []) := by
  intro n
  induction n with
  | zero =>
    intro i h hi hb
    refine N43_0 (c.toNat : Nat) upA loA (i : Nat) ?_
    have h1 : ¬ ((i : Int) < ((upA.length : Nat) : Int)) := by have : upA.length = 26 := rfl; omega
    have hl := not_up ⟨c.toNat, c.toNat_lt⟩ (fun j => by rw [u8_of]; exact hb j.val (by omega))
    rw [u8_of] at hl
    simp only [T43_0, h1, decide_false, Bool.false_eq_true, if_false, hl]
    exact evt_some _
  | succ n ih =>
    intro i h hi hb
    refine N43_0 (c.toNat : Nat) upA loA (i : Nat) ?_
    have h1 : ((i : Int) < ((upA.length : Nat) : Int)) := by have : upA.length = 26 := rfl; omega
    have h1' : ((i : Int) < ((loA.length : Nat) : Int)) := by have : loA.length = 26 := rfl; omega
    have h2 : (0 : Int) ≤ (i : Int) := by omega
    have hw : IntKind.wrap .i64 ((i : Int) + 1) = ((i + 1 : Nat) : Int) := by rw [wrap64 (by omega) (by omega)]; omega
    simp only [T43_0, h1, decide_true, if_true, chk_p h2, chk_t, Int.toNat_natCast, intB_inj, hw]
    by_cases he : upA.getD i 0 = c
    · have hb1 : (upA.getD i 0 == c) = true := by simpa using he
      have hl := up_low ⟨i, by omega⟩
      simp only at hl
      rw [he] at hl
      simp only [hb1, if_true, chk_p h1', hl]
      exact evt_some _
    · have hb1 : (upA.getD i 0 == c) = false := by simpa using he
      simp only [hb1, Bool.false_eq_true, if_false]
      refine ih (i + 1) (by omega) (by omega) fun j hj => ?_
      by_cases e : j = i
      · subst e; exact he
      · exact hb j (by omega)
theorem ret43 (c : UInt8) : Ret 43 [.int .u8 (c.toNat : Nat)] [] (.int .u8 ((low8 c).toNat : Nat), []) := by
  refine M43 (c.toNat : Nat) ?_
  simp only [T43]
  exact loop43 c 26 0 rfl (by omega) (fun j hj => by omega)

theorem loop25 (s : Bs) (hs : s.length ≤ 1000000) : ∀ (n i : Nat), s.length - i = n → i ≤ s.length → Evt (fun k m => L25 (callN cfg k) m s (ofBytes ((s.take i).map low8)) (i : Nat)) (.str (s.map low8), []) := by
  intro n
  induction n with
  | zero =>
    intro i h hi
    have : i = s.length := by omega
    subst this
    refine N25_0 s (ofBytes ((s.take s.length).map low8)) (s.length : Nat) ?_
    have h1 : ¬ ((s.length : Int) < (s.length : Int)) := by omega
    simp only [T25_0, h1, decide_false, Bool.false_eq_true, if_false, bytesOf_ofBytes, List.take_length]
    exact evt_some _
  | succ n ih =>
    intro i h hi
    have hlt : i < s.length := by omega
    refine N25_0 s (ofBytes ((s.take i).map low8)) (i : Nat) ?_
    have h1 : ((i : Int) < (s.length : Int)) := by omega
    have h2 : (0 : Int) ≤ (i : Int) := by omega
    have hw : IntKind.wrap .i64 ((i : Int) + 1) = ((i + 1 : Nat) : Int) := by rw [wrap64 (by omega) (by omega)]; omega
    have hap : appOk (ofBytes ((s.take i).map low8)) [V.int IntKind.u8 (((low8 s[i]).toNat : Nat) : Int)] 2 = true := app_ok (by simp [ofBytes_length]; omega)
    have e : (s.take (i + 1)).map low8 = (s.take i).map low8 ++ [low8 s[i]] := by rw [List.take_succ_eq_append_getElem hlt, List.map_append]; rfl
    have := ih (i + 1) (by omega) (by omega)
    rw [e] at this
    simp only [T25_0, h1, decide_true, if_true, chk_p h2, chk_t, Int.toNat_natCast, getD_at hlt]
    refine evt_bind (ret43 s[i]) ?_
    simp only [V.getI, chk_b hap, ofBytes_snoc, hw]
    exact this
theorem ret25 (s : Bs) (hs : s.length ≤ 1000000) : Ret 25 [.str s] [] (.str (s.map low8), []) := by
  refine M25 s ?_
  simp only [T25]
  exact loop25 s hs _ 0 rfl (by omega)

theorem loop55 (c : UInt8) (s : Bs) (hs : s.length ≤ 1000000) : ∀ (n i : Nat), s.length - i = n → i ≤ s.length → Evt (fun k m => L55 (callN cfg k) m s (c.toNat : Nat) (i : Nat)) (.bool ((s.drop i).contains c), []) := by
  intro n
  induction n with
  | zero =>
    intro i h hi
    refine N55_0 s (c.toNat : Nat) (i : Nat) ?_
    have h1 : ¬ ((i : Int) < (s.length : Int)) := by omega
    rw [List.drop_eq_nil_of_le (by omega)]
    simp only [T55_0, h1, decide_false, Bool.false_eq_true, if_false, List.contains_nil]
    exact evt_some _
  | succ n ih =>
    intro i h hi
    have hlt : i < s.length := by omega
    refine N55_0 s (c.toNat : Nat) (i : Nat) ?_
    have h1 : ((i : Int) < (s.length : Int)) := by omega
    have h2 : (0 : Int) ≤ (i : Int) := by omega
    have hw : IntKind.wrap .i64 ((i : Int) + 1) = ((i + 1 : Nat) : Int) := by rw [wrap64 (by omega) (by omega)]; omega
    rw [drop_at hlt]
    simp only [T55_0, h1, decide_true, if_true, chk_p h2, chk_t, Int.toNat_natCast, getD_at hlt, intB_inj, hw]
    cases he : (s[i] == c)
    · have hx : (s[i] :: s.drop (i + 1)).contains c = (s.drop (i + 1)).contains c := by
        have : (c == s[i]) = false := by rw [BEq.comm]; exact he
        rw [List.contains_cons, this]; simp
      simp only [Bool.false_eq_true, if_false, hx]
      exact ih (i + 1) (by omega) (by omega)
    · have hx : (s[i] :: s.drop (i + 1)).contains c = true := by
        have : (c == s[i]) = true := by rw [BEq.comm]; exact he
        rw [List.contains_cons, this]; simp
      simp only [if_true, hx]
      exact evt_some _
theorem ret55 (c : UInt8) (s : Bs) (hs : s.length ≤ 1000000) : Ret 55 [.str s, .int .u8 (c.toNat : Nat)] [] (.bool (s.contains c), []) := by
  refine M55 s (c.toNat : Nat) ?_
  simp only [T55]
  exact loop55 c s hs _ 0 rfl (by omega)
theorem ret41 (c : UInt8) : Ret 41 [.int .u8 (c.toNat : Nat)] [] (.bool (tokB c), []) := by
  refine M41 (c.toNat : Nat) ?_
  simp only [T41]
  refine evt_bind (ret55 c specials (by decide)) ?_
  dsimp only [V.getB]
  have h : (if decide (((c.toNat : Nat) : Int) > 32) = true then (if decide (((c.toNat : Nat) : Int) < 127) = true then some (!specials.contains c) else some false) else some false) = some (tokB c) := by
    unfold tokB
    have e1 : (33 ≤ c) ↔ (((c.toNat : Nat) : Int) > 32) := by
      rw [← intB_le 33 c]
      show (33 : Int) ≤ _ ↔ _
      omega
    have e2 : (c ≤ 126) ↔ (((c.toNat : Nat) : Int) < 127) := by
      rw [← intB_le c 126]
      show _ ≤ (126 : Int) ↔ _
      omega
    by_cases h1 : ((c.toNat : Nat) : Int) > 32
    · by_cases h2 : ((c.toNat : Nat) : Int) < 127
      · have g1 := e1.2 h1
        have g2 := e2.2 h2
        rw [if_pos (decide_eq_true h1), if_pos (decide_eq_true h2)]
        simp [g1, g2]
      · have g2 : ¬ c ≤ 126 := fun h => h2 (e2.1 h)
        rw [if_pos (decide_eq_true h1), if_neg (by simpa using h2)]
        simp [g2]
    · have g1 : ¬ 33 ≤ c := fun h => h1 (e1.1 h)
      rw [if_neg (by simpa using h1)]
      simp [g1]
  rw [h]
  exact evt_some _

theorem loop42 (s : Bs) (hs : s.length ≤ 1000000) : ∀ (n i : Nat) (d : Int), s.length - i ≤ n → Evt (fun k m => L42 (callN cfg k) m s d (i : Nat)) (.str (cmtR d (s.drop i)), []) := by
  have fin : ∀ (i : Nat) (d : Int), s.length ≤ i → Evt (fun k m => L42 (callN cfg k) m s d (i : Nat)) (.str (cmtR d (s.drop i)), []) := by
    intro i d h
    refine N42_0 s d (i : Nat) ?_
    have h1 : ¬ ((i : Int) < (s.length : Int)) := by omega
    rw [List.drop_eq_nil_of_le h]
    simp only [T42_0, h1, decide_false, Bool.false_eq_true, if_false, cmtR]
    exact evt_some _
  intro n
  induction n with
  | zero => intro i d h; exact fin i d (by omega)
  | succ n ih =>
    intro i d h
    by_cases hlt : i < s.length
    · refine N42_0 s d (i : Nat) ?_
      have h1 : ((i : Int) < (s.length : Int)) := by omega
      have h2 : (0 : Int) ≤ (i : Int) := by omega
      have hw : IntKind.wrap .i64 ((i : Int) + 1) = ((i + 1 : Nat) : Int) := by rw [wrap64 (by omega) (by omega)]; omega
      have hw2 : IntKind.wrap .i64 (((i + 1 : Nat) : Int) + 1) = ((i + 2 : Nat) : Int) := by rw [wrap64 (by omega) (by omega)]; omega
      have h3 : (0 : Int) ≤ ((i + 1 : Nat) : Int) := by omega
      have h4 : ((i + 1 : Nat) : Int) ≤ (s.length : Int) := by omega
      have e92 : (((s[i].toNat : Nat) : Int) == (92 : Int)) = (s[i] == 92) := intB_lit s[i] 92 (by omega)
      have e40 : (((s[i].toNat : Nat) : Int) == (40 : Int)) = (s[i] == 40) := intB_lit s[i] 40 (by omega)
      have e41 : (((s[i].toNat : Nat) : Int) == (41 : Int)) = (s[i] == 41) := intB_lit s[i] 41 (by omega)
      rw [drop_at hlt, cmtR_cons]
      simp only [T42_0, h1, decide_true, if_true, chk_p h2, chk_t, Int.toNat_natCast, getD_at hlt, e92, e40, e41, hw, hw2, chk_p h3, chk_p h4]
      by_cases c92 : s[i] = 92
      · have b40 : ((92 : UInt8) == 40) = false := by decide
        have b41 : ((92 : UInt8) == 41) = false := by decide
        have := ih (i + 2) d (by omega)
        simp only [c92, beq_self_eq_true, if_true, b40, b41, Bool.false_eq_true, if_false, List.drop_drop]
        exact this
      · have b92 : (s[i] == 92) = false := by simpa using c92
        by_cases c40 : s[i] = 40
        · have b41 : ((40 : UInt8) == 41) = false := by decide
          have b92' : ((40 : UInt8) == 92) = false := by decide
          have n92 : ¬ ((40 : UInt8) = 92) := by decide
          have := ih (i + 1) (IntKind.wrap .i64 (d + 1)) (by omega)
          simp only [c40, b92', beq_self_eq_true, if_true, b41, Bool.false_eq_true, if_false, n92]
          exact this
        · have b40 : (s[i] == 40) = false := by simpa using c40
          by_cases c41 : s[i] = 41
          · have b92' : ((41 : UInt8) == 92) = false := by decide
            have b40' : ((41 : UInt8) == 40) = false := by decide
            have n92 : ¬ ((41 : UInt8) = 92) := by decide
            have n40 : ¬ ((41 : UInt8) = 40) := by decide
            simp only [c41, b92', b40', beq_self_eq_true, if_true, Bool.false_eq_true, if_false, n92, n40]
            by_cases hd : IntKind.wrap .i64 (d - 1) = 0
            · simp only [hd, beq_self_eq_true, if_true]
              exact evt_some _
            · have hb : (IntKind.wrap .i64 (d - 1) == 0) = false := by simpa using hd
              simp only [hb, hd, Bool.false_eq_true, if_false]
              exact ih (i + 1) (IntKind.wrap .i64 (d - 1)) (by omega)
          · have b41 : (s[i] == 41) = false := by simpa using c41
            simp only [b92, b40, b41, c92, c40, c41, Bool.false_eq_true, if_false]
            exact ih (i + 1) d (by omega)
    · exact fin i d (by omega)
theorem ret42 (s : Bs) (hs : s.length ≤ 1000000) : Ret 42 [.str s] [] (.str (cmtR 0 s), []) := by
  refine M42 s ?_
  simp only [T42]
  exact loop42 s hs s.length 0 0 (by omega)

theorem loop24 : ∀ (n : Nat) (s : Bs), s.length ≤ n → s.length ≤ 1000000 → Evt (fun k m => L24 (callN cfg k) m s) (.str (skipF s), [])
  | _, [], _, _ => by
    refine N24_0 [] ?_
    have hs : sEq ([] : Bs) [] = true := rfl
    simp only [T24_0, skipF_nil, hs, Bool.not_true, Bool.false_eq_true, if_false]
    exact evt_some _
  | 0, c :: r, h, _ => by simp at h
  | n + 1, c :: r, h, hs => by
    refine N24_0 (c :: r) ?_
    have hse : sEq (c :: r) [] = false := rfl
    have h1 : (0 : Int) < (((c :: r : Bs).length : Nat) : Int) := by rw [List.length_cons]; omega
    have h2 : (1 : Int) ≤ (((c :: r : Bs).length : Nat) : Int) := by rw [List.length_cons]; omega
    have g0 : List.getD (c :: r) (Int.toNat 0) 0 = c := rfl
    have e40 : (((c.toNat : Nat) : Int) == (40 : Int)) = (c == 40) := intB_lit c 40 (by omega)
    have e32 : (((c.toNat : Nat) : Int) == (32 : Int)) = (c == 32) := intB_lit c 32 (by omega)
    have e9 : (((c.toNat : Nat) : Int) == (9 : Int)) = (c == 9) := intB_lit c 9 (by omega)
    have hd : List.drop (Int.toNat 1) (c :: r) = r := rfl
    simp only [T24_0, hse, Bool.not_false, if_true, chk_p (Int.le_refl 0), chk_p h1, g0, e40, e32, e9, chk_p (show (0 : Int) ≤ 1 by omega), chk_p h2, hd]
    rw [skipF_cons]
    simp at h hs
    by_cases hc : c = 40
    · subst hc
      have hb : blankB 40 = false := by decide
      have := cmtR_length _ 0 (40 :: r) (Nat.le_refl _)
      simp at this
      simp only [beq_self_eq_true, if_true, hb, Bool.false_eq_true, if_false]
      refine evt_bind (ret42 (40 :: r) (by simpa using hs)) ?_
      exact loop24 n (cmtR 0 (40 :: r)) (by omega) (by omega)
    · have hc' : (c == 40) = false := by simpa using hc
      have hor : (if (c == 32) = false then some (c == 9) else some true) = some (blankB c) := by
        unfold blankB
        cases (c == 32) <;> simp
      simp only [hc', Bool.false_eq_true, if_false, hor, bind_s, hc]
      cases hb : blankB c
      · simp only [Bool.false_eq_true, if_false]
        exact evt_some _
      · simp only [if_true]
        exact loop24 n r (by omega) (by omega)
theorem ret24 (s : Bs) (hs : s.length ≤ 1000000) : Ret 24 [.str s] [] (.str (skipF s), []) := by
  refine M24 s ?_
  simp only [T24]
  exact loop24 _ s (Nat.le_refl _) hs

theorem loop23 (s : Bs) (hs : s.length ≤ 1000000) : ∀ (n i : Nat), s.length - i = n → i ≤ s.length → (∀ j (h : j < s.length), j < i → tokB s[j] = true) →
    Evt (fun k m => L23 (callN cfg k) m s (i : Nat)) (.tup [.str (tokF s).1, .str (tokF s).2], []) := by
  have fin : ∀ i : Nat, i ≤ s.length → (∀ j (h : j < s.length), j < i → tokB s[j] = true) → (∀ h : i < s.length, tokB s[i] = false) → (tokF s).1 = s.take i ∧ (tokF s).2 = s.drop i := by
    intro i hi h1 h2
    have e : s = s.take i ++ s.drop i := (List.take_append_drop i s).symm
    have h3 : ∀ b ∈ s.take i, tokB b = true := by
      intro b hb
      obtain ⟨j, hj, rfl⟩ := List.getElem_of_mem hb
      have hj' : j < i ∧ j < s.length := by rw [List.length_take] at hj; omega
      rw [List.getElem_take]
      exact h1 j hj'.2 hj'.1
    have h4 : (s.drop i).takeWhile tokB = [] ∧ (s.drop i).dropWhile tokB = s.drop i := by
      by_cases hlt : i < s.length
      · rw [drop_at hlt, List.takeWhile_cons_of_neg (by simp [h2 hlt]), List.dropWhile_cons_of_neg (by simp [h2 hlt])]; exact ⟨rfl, rfl⟩
      · rw [List.drop_eq_nil_of_le (by omega)]; simp
    unfold tokF
    constructor
    · show s.takeWhile tokB = _
      conv => lhs; rw [e]
      rw [List.takeWhile_append_of_pos h3, h4.1, List.append_nil]
    · show s.dropWhile tokB = _
      conv => lhs; rw [e]
      rw [List.dropWhile_append_of_pos h3, h4.2]
  intro n
  induction n with
  | zero =>
    intro i h hi hb
    refine N23_0 s (i : Nat) ?_
    have h1 : ¬ ((i : Int) < (s.length : Int)) := by omega
    obtain ⟨e1, e2⟩ := fin i hi hb (fun h => by omega)
    rw [List.take_of_length_le (by omega)] at e1
    rw [List.drop_eq_nil_of_le (by omega)] at e2
    simp only [T23_0, h1, decide_false, Bool.false_eq_true, if_false, e1, e2]
    exact evt_some _
  | succ n ih =>
    intro i h hi hb
    refine N23_0 s (i : Nat) ?_
    have hlt : i < s.length := by omega
    have h1 : ((i : Int) < (s.length : Int)) := by omega
    have h2 : (0 : Int) ≤ (i : Int) := by omega
    have h3 : ((i : Int) ≤ (s.length : Int)) := by omega
    have hw : IntKind.wrap .i64 ((i : Int) + 1) = ((i + 1 : Nat) : Int) := by rw [wrap64 (by omega) (by omega)]; omega
    simp only [T23_0, h1, decide_true, if_true, chk_p h2, chk_p h3, chk_t, chk_p (Int.le_refl 0), Int.toNat_natCast, getD_at hlt]
    refine evt_bind (ret41 s[i]) ?_
    simp only [V.getB, hw]
    cases ht : tokB s[i]
    · obtain ⟨e1, e2⟩ := fin i hi hb (fun _ => ht)
      simp only [Bool.not_false, if_true, e1, e2]
      exact evt_some _
    · simp only [Bool.not_true, Bool.false_eq_true, if_false]
      refine ih (i + 1) (by omega) (by omega) fun j hj hji => ?_
      by_cases e : j = i
      · subst e; exact ht
      · exact hb j hj (by omega)
theorem ret23 (s : Bs) (hs : s.length ≤ 1000000) : Ret 23 [.str s] [] (.tup [.str (tokF s).1, .str (tokF s).2], []) := by
  refine M23 s ?_
  simp only [T23]
  exact loop23 s hs _ 0 rfl (by omega) (fun j h hj => by omega)

theorem cut_one {s : Bs} {i : Nat} (h : i < s.length) : List.drop i (List.take (i + 1) s) = [s[i]] := by
  rw [List.take_succ_eq_append_getElem h, List.drop_append_of_le_length (by rw [List.length_take]; omega), List.drop_eq_nil_of_le (by rw [List.length_take]; omega)]; rfl
theorem loop44 (s : Bs) (hs : s.length ≤ 1000000) : ∀ (n i : Nat) (out : Bs), s.length - i ≤ n → out.length ≤ i →
    Evt (fun k m => L44 (callN cfg k) m s out (i : Nat)) (match quoF (s.drop i) with
      | some (t, r) => (.tup [.str (out ++ t), .str r, .bool true], [])
      | none => (.tup [.str [], .str [], .bool false], [])) := by
  have fin : ∀ (i : Nat) (out : Bs), s.length ≤ i → Evt (fun k m => L44 (callN cfg k) m s out (i : Nat)) (match quoF (s.drop i) with
      | some (t, r) => (.tup [.str (out ++ t), .str r, .bool true], [])
      | none => (.tup [.str [], .str [], .bool false], [])) := by
    intro i out h
    rw [List.drop_eq_nil_of_le h]
    refine N44_0 s out (i : Nat) ?_
    have h1 : ¬ ((i : Int) < (s.length : Int)) := by omega
    simp only [T44_0, h1, decide_false, Bool.false_eq_true, if_false, quoF]
    exact evt_some _
  intro n
  induction n with
  | zero => intro i out h _; exact fin i out (by omega)
  | succ n ih =>
    intro i out h ho
    by_cases hlt : i < s.length
    · have h1 : ((i : Int) < (s.length : Int)) := by omega
      have h2 : (0 : Int) ≤ (i : Int) := by omega
      have hw : IntKind.wrap .i64 ((i : Int) + 1) = ((i + 1 : Nat) : Int) := by rw [wrap64 (by omega) (by omega)]; omega
      have hw2 : IntKind.wrap .i64 (((i + 1 : Nat) : Int) + 1) = ((i + 1 + 1 : Nat) : Int) := by rw [wrap64 (by omega) (by omega)]; omega
      have h3 : (0 : Int) ≤ ((i + 1 : Nat) : Int) := by omega
      have h4 : ((i + 1 : Nat) : Int) ≤ (s.length : Int) := by omega
      have h5 : (i : Int) ≤ ((i + 1 : Nat) : Int) := by omega
      have e34 : (((s[i].toNat : Nat) : Int) == (34 : Int)) = (s[i] == 34) := intB_lit s[i] 34 (by omega)
      have e92 : (((s[i].toNat : Nat) : Int) == (92 : Int)) = (s[i] == 92) := intB_lit s[i] 92 (by omega)
      rw [drop_at hlt, quoF_cons]
      refine N44_0 s out (i : Nat) ?_
      by_cases c34 : s[i] = 34
      · simp only [T44_0, h1, decide_true, if_true, chk_p h2, chk_t, Int.toNat_natCast, getD_at hlt, e34, c34, beq_self_eq_true, hw, chk_p h3, chk_p h4, List.append_nil]
        exact evt_some _
      · have b34 : (s[i] == 34) = false := by simpa using c34
        by_cases c92 : s[i] = 92
        · by_cases hlt2 : i + 1 < s.length
          · have h6 : ((i + 1 : Nat) : Int) < (s.length : Int) := by omega
            have h7 : (0 : Int) ≤ ((i + 1 + 1 : Nat) : Int) := by omega
            have h8 : ((i + 1 + 1 : Nat) : Int) ≤ (s.length : Int) := by omega
            have h9 : ((i + 1 : Nat) : Int) ≤ ((i + 1 + 1 : Nat) : Int) := by omega
            have hc : catOk out [s[i+1]] = true := cat_ok (by simp; omega)
            have g := ih (i + 1 + 1) (out ++ [s[i+1]]) (by omega) (by simp; omega)
            have g34 : ¬ ((92 : UInt8) = 34) := by decide
            rw [if_neg (by rw [c92]; exact g34), if_pos c92, drop_at hlt2]
            simp only [T44_0, h1, decide_true, if_true, chk_p h2, chk_t, Int.toNat_natCast, getD_at hlt, e34, b34, Bool.false_eq_true, if_false, e92, c92, beq_self_eq_true, hw, h6, hw2, chk_p h3, chk_p h7, chk_p h8, chk_p h9, cut_one hlt2, chk_b hc]
            cases hq : quoF (s.drop (i + 2)) with
            | none => rw [hq] at g; simpa [hq] using g
            | some p => rw [hq] at g; simpa [hq] using g
          · have h6 : ¬ (((i + 1 : Nat) : Int) < (s.length : Int)) := by omega
            have g := fin (i + 1 + 1) out (by omega)
            have g34 : ¬ ((92 : UInt8) = 34) := by decide
            rw [if_neg (by rw [c92]; exact g34), if_pos c92, List.drop_eq_nil_of_le (by omega : s.length ≤ i + 1)]
            rw [List.drop_eq_nil_of_le (by omega : s.length ≤ i + 1 + 1)] at g
            simp only [T44_0, h1, decide_true, decide_false, if_true, chk_p h2, chk_t, Int.toNat_natCast, getD_at hlt, e34, b34, Bool.false_eq_true, if_false, e92, c92, beq_self_eq_true, hw, h6, hw2]
            exact g
        · have b92 : (s[i] == 92) = false := by simpa using c92
          have hc : catOk out [s[i]] = true := cat_ok (by simp; omega)
          have g := ih (i + 1) (out ++ [s[i]]) (by omega) (by simp; omega)
          rw [if_neg c34, if_neg c92]
          simp only [T44_0, h1, decide_true, if_true, chk_p h2, chk_t, Int.toNat_natCast, getD_at hlt, e34, b34, Bool.false_eq_true, if_false, e92, b92, hw, chk_p h3, chk_p h4, chk_p h5, cut_one hlt, chk_b hc]
          cases hq : quoF (s.drop (i + 1)) with
          | none => rw [hq] at g; simpa [hq] using g
          | some p => rw [hq] at g; simpa [hq] using g
    · exact fin i out (by omega)
theorem ret44 (s : Bs) (hs : s.length ≤ 1000000) : Ret 44 [.str s] [] (match quoF (s.drop 1) with
      | some (t, r) => (.tup [.str t, .str r, .bool true], [])
      | none => (.tup [.str [], .str [], .bool false], [])) := by
  refine M44 s ?_
  simp only [T44]
  exact loop44 s hs s.length 1 [] (by omega) (by simp)
end Go.Proofs.YtmhhcoccfojiiaaDoor
